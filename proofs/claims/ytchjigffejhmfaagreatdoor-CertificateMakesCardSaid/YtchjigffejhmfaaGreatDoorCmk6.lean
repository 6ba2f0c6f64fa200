/-
  The card of CertificateMakes.
-/
import Derived.Test.YtchjigffejhmfaaGreatDoorRows
import Derived.ProofKit
import Derived.OpenShut
import Derived.Lib.LaidU8
import Derived.Lay
import Derived.MakeChecks
import Derived.LaidLaws
import Derived.Stop.Joined
import Derived.Test.YtchjigffejhmfaaGreatDoorCards
import Derived.Test.YtchjigffejhmfaaGreatDoorTie
import Derived.SevenTiedAt
import Derived.Test.YtchjigffejhmfaaGreatDoorCmk5
namespace Go.Proofs.YtchjigffejhmfaaGreatDoor
section
open Go.RowKit
attribute [local go_sem ↓] Go.wp_at_zero Go.wp_at_succ
set_option maxRecDepth 20000
set_option exponentiation.threshold 5000
set_option maxHeartbeats 4000000 in
theorem runknown_any {w0 w : World} {F : List A7} {K : (Nat -> Prop) -> World -> Prop} {v : Value} {p : AZ} {L : List (Nat × Nat)} {r : Nat} (hR : RFit p L) (hr : p.roles = (r : Int)) (h1 : 1 <= r) (h63 : r <= 63) (hS : St w0 w F K) (kp : ∀ D w, K D w -> Bj w D v p) :
  Calls Tryz.prog 56 #[v] w fun e w' => e = .returned (.bool (!D6 p L (B6 r))) /\ St w0 w' F K := by
 obtain ⟨Al, cl, Ar, cr, An, cn, Ag, cg, rfl, -⟩ := Ed hR.links (kp _ _ hS.ro)
 have KS := Lib.hid hS.stable
 have HR := Lib.hid hR
 have kl : ∀ D w, K D w -> Sl w D 2 (.slice Al L.length cl) L.length (A6 L) := fun D w h => (C9 hR.links (kp D w h)).1
 have kr : ∀ D w, K D w -> Sl w D 5 (.slice Ar p.rules.length cr) p.rules.length (B5 p.rules) := fun D w h => (C9 hR.links (kp D w h)).2.1
 have HRo : Hid (∀ (w : World) (D : Nat -> Prop) (v : Value), Bj w D v p -> Calls Tryz.prog 129 #[v] w (Aw (fun x _ => x = .int .u64 (B6 r : Nat)) w)) := Lib.hid fun w D v h => rroles31_any h hr h1 h63
 have HCu : Hid (∀ (w0 w : World) (F : List A7) (K : (Nat -> Prop) -> World -> Prop) (v : Value), St w0 w F K -> (∀ D w, K D w -> Bj w D v p) -> Calls Tryz.prog 57 #[v] w fun e w' => ∃ u, e = .returned u /\ St w0 w' F fun D w => K D w /\ BH w D u p.cubes) := Lib.hid fun w0 w F K v h k => I3 hR h k
 have hlen := hR.len
 have hl1 := hR.fits.rlen
 have hcl := cubes_len p
 have hl2 := hR.fits.nlen
 have hl3 := hR.fits.glen
 obtain ⟨q1, q2, q3, q4⟩ := known_parts hR h63
 have HQ1 := Lib.hid q1
 have HQ2 := Lib.hid q2
 have HQ3 := Lib.hid q3
 have HQ4 := Lib.hid q4
 have HSM := Lib.hid hR.small
 have HST : Hid (p.start < AE) := Lib.hid hR.fits.start
 have HN : Hid (B6 r < AE) := Lib.hid (IO r (by omega))
 have HKP := Lib.hid kp
 clear q1 q2 q3 q4 kp hR
 have hcl2 : p.cubes.length <= 3000 := by omega
 clear hcl hl2 hl3
 obtain ⟨kb, hkb⟩ : ∃ kb, D6 p L (B6 r) = kb := ⟨_, rfl⟩
 rw [hkb] at HQ1 HQ2 HQ3 HQ4 ⊢
 clear hkb
 obtain ⟨N, hN⟩ : ∃ N, B6 r = N := ⟨_, rfl⟩
 rw [hN] at HQ3 HQ4 HN HRo
 clear hN
 obtain ⟨rl, hrl⟩ : ∃ rl, p.rules = rl := ⟨_, rfl⟩
 obtain ⟨cu, hcu⟩ : ∃ cu, p.cubes = cu := ⟨_, rfl⟩
 obtain ⟨st, hst⟩ : ∃ st, p.start = st := ⟨_, rfl⟩
 obtain ⟨nn, hnn⟩ : ∃ nn, p.never.length = nn := ⟨_, rfl⟩
 obtain ⟨ng, hng⟩ : ∃ ng, p.goal.length = ng := ⟨_, rfl⟩
 rw [hrl] at HQ2 HQ4 kr hl1
 rw [hcu] at HQ3 HQ4 HCu HSM hcl2
 rw [hst] at HQ4 HST
 rw [hrl, hst, hr, hnn, hng] at HKP
 rw [hrl, hst, hr, hnn, hng]
 clear hr hrl hcu hst hnn hng
 go_enter Tryz.func56, Tryz.ntmps56
 go_wp2_with (first
  | ((with_reducible refine qA 1 ?_); refine AH hS rfl _ _ rfl (.agg #[.int .i64 (r : Nat), .slice Al L.length cl, .int .u64 (st : Nat), .slice Ar rl.length cr, .slice An nn cn, .slice Ag ng cg]) _ rfl rfl ?_; clear hS; intro g1 w_ hS; (try simp only [Act.put, Act.eval, zz, Value.cells] at hS))
  | ((with_reducible refine qK ?_); refine qL hS Tryz.underlying30 ?_)
  | (go_at_call 129; refine (HRo.out _ _ _ (HKP.out _ _ hS.ro)).mono ?_; rintro r_ w_ ⟨_, rfl, rfl, hb_⟩; replace hS := hS.ext hb_; clear hb_)
  | ((with_reducible refine qK ?_); refine qC hS ?_))
 go_loopw [15] (fun i wr => ∃ j : Nat, i = .int .i64 (j : Nat) /\ j <= L.length /\ Hid (∀ i, i < j -> ∀ z, L[i]? = some z -> z.1 <= r /\ z.2 <= r) /\ St w0 wr (.box g1 30 #[.int .i64 (r : Nat), .slice Al L.length cl, .int .u64 (st : Nat), .slice Ar rl.length cr, .slice An nn cn, .slice Ag ng cg] :: F) K) (fun i _ => L.length - (intOf i).toNat)
 case atStart => exact ⟨0, rfl, by omega, Lib.hid fun i h => by omega, hS⟩
 case round =>
  clear hS
  obtain ⟨j, rfl, hj, HZ, hS⟩ := hrel
  by_cases hlj : j < L.length
  ·obtain ⟨f1, f2⟩ := Bk L j hlj
   have hz : L[j]? = some (L.getD j (0, 0)) := Cf (0, 0) hlj
   generalize L.getD j (0, 0) = z at *
   have HZJ := Lib.hid hz
   have HB : Hid ((r < z.1 \/ r < z.2) -> kb = false) := Lib.hid (HQ1.out z (List.mem_of_getElem? hz))
   clear hz
   obtain ⟨za, zb⟩ := z
   dsimp only at f1 f2 HB
   by_cases hza : r < za \/ r < zb
   ·obtain rfl : kb = false := HB.out hza
    by_cases hz1 : r < za
    all_goals
     go_wp2_with (first
      | ((with_reducible refine qB ?_); refine qc ?_ ?_ <;> intro h_ <;> go_prune)
      | ((with_reducible refine qI ?_); refine qj hS Tryz.underlying25 ?_; intro b_ j_ hc0_ hc1_)
      | ((with_reducible refine qA 5 ?_); refine AY hS rfl _ rfl (by kernel_rfl) ?_; clear hS; intro g5 w_ hS; (try simp only [Act.put, Act.eval, zz, Value.cells] at hS))
      | ((with_reducible refine qM ?_); (first | refine qS hS ?_ | refine qT hS ?_); clear hS; intro w_ hS; (try simp only [Act.put, Act.eval, zz, Value.cells] at hS))
      | ((with_reducible refine qK ?_); refine qC hS ?_))
     go_ret
     exact ⟨rfl, hS.sub ((List.sublist_cons_self _ _).trans (List.sublist_cons_self _ _))⟩
   ·have hz1 : za <= r := by omega
    have hz2 : zb <= r := by omega
    clear hza
    go_wp2_with (first
     | ((with_reducible refine qB ?_); refine qc ?_ ?_ <;> intro h_ <;> go_prune)
     | ((with_reducible refine qI ?_); refine qj hS Tryz.underlying25 ?_; intro b_ j_ hc0_ hc1_)
     | ((with_reducible refine qA 5 ?_); refine AY hS rfl _ rfl (by kernel_rfl) ?_; clear hS; intro g5 w_ hS; (try simp only [Act.put, Act.eval, zz, Value.cells] at hS))
     | ((with_reducible refine qM ?_); (first | refine qS hS ?_ | refine qT hS ?_); clear hS; intro w_ hS; (try simp only [Act.put, Act.eval, zz, Value.cells] at hS))
     | ((with_reducible refine qK ?_); refine qC hS ?_))
    refine ⟨⟨j + 1, by go_num, hlj, Lib.hid fun i hi z hz => ?_, hS.sub (List.sublist_cons_self _ _)⟩, by simp [intOf]; omega⟩
    rcases Nat.lt_or_ge i j with h3 | h3
    ·exact HZ.out i h3 z hz
    ·obtain rfl : i = j := by omega
     rw [HZJ.out] at hz
     obtain rfl := Option.some.inj hz
     exact ⟨hz1, hz2⟩
  ·obtain rfl : j = L.length := by omega
   have HZ1 : Hid (∀ z ∈ L, z.1 <= r /\ z.2 <= r) := Lib.hid fun z hz => by
    obtain ⟨i, hi⟩ := List.mem_iff_getElem?.1 hz
    exact HZ.out i (List.getElem?_eq_some_iff.1 hi).1 z hi
   clear HZ HQ1
   go_wp2_with (first | ((with_reducible refine qB ?_); refine qc ?_ ?_ <;> intro h_ <;> go_prune) | ((with_reducible refine qK ?_); refine qC hS ?_))
   go_loopw [35] (fun i wr => ∃ j : Nat, i = .int .i64 (j : Nat) /\ j <= rl.length /\ Hid (∀ i, i < j -> ∀ z, rl[i]? = some z -> 1 <= z.target /\ z.target <= (r : Int)) /\ St w0 wr (.box g1 30 #[.int .i64 (r : Nat), .slice Al L.length cl, .int .u64 (st : Nat), .slice Ar rl.length cr, .slice An nn cn, .slice Ag ng cg] :: F) K) (fun i _ => rl.length - (intOf i).toNat)
   case atStart => exact ⟨0, rfl, by omega, Lib.hid fun i h => by omega, hS⟩
   case round =>
    clear hS
    obtain ⟨j, rfl, hj, HZ, hS⟩ := hrel
    by_cases hlj : j < rl.length
    ·obtain ⟨b, o, rfl, c0, c1, c2, c3, c4⟩ := rr_at (kr _ _ hS.ro) hlj
     have hz : rl[j]? = some (rl.getD j Bn) := Cf Bn hlj
     generalize rl.getD j Bn = z at *
     have HZJ := Lib.hid hz
     have HB : Hid ((z.target < 1 \/ (r : Int) < z.target) -> kb = false) := Lib.hid (HQ2.out z (List.mem_of_getElem? hz))
     clear hz
     obtain ⟨zr, zy, zn, zt, zo⟩ := z
     dsimp only at c0 c1 c2 c3 c4 HB
     by_cases hza : zt < 1 \/ (r : Int) < zt
     ·obtain rfl : kb = false := HB.out hza
      by_cases hz1 : zt < 1
      all_goals
       go_wp2_with (first
        | ((with_reducible refine qB ?_); refine qc ?_ ?_ <;> intro h_ <;> go_prune)
        | ((with_reducible refine qA 38 ?_); refine BigFrame.wpList_want rfl fun _ hK => Be (cs := [.bool zr, .int .u64 (zy : Nat), .int .u64 (zn : Nat), .int .i64 zt, .int .i64 zo]) rfl rfl (Ke c0 c1 c2 c3 c4) Tryz.underlying109 rfl (by kernel_rfl) (hK _ _ ?_))
        | ((with_reducible refine qA 7 ?_); refine qa hS #[.bool false, .int .u64 0, .int .u64 0, .int .i64 0, .int .i64 0] ?_; clear hS; intro g7 w_ hS)
        | ((with_reducible refine qM ?_); (first | refine qS hS ?_ | refine qT hS ?_); clear hS; intro w_ hS; (try simp only [Act.put, Act.eval, zz, Value.cells] at hS))
        | ((with_reducible refine qK ?_); refine qC hS ?_))
       go_ret
       exact ⟨rfl, hS.sub ((List.sublist_cons_self _ _).trans (List.sublist_cons_self _ _))⟩
     ·have hz1 : 1 <= zt := by omega
      have hz2 : zt <= (r : Int) := by omega
      clear hza
      go_wp2_with (first
       | ((with_reducible refine qB ?_); refine qc ?_ ?_ <;> intro h_ <;> go_prune)
       | ((with_reducible refine qA 38 ?_); refine BigFrame.wpList_want rfl fun _ hK => Be (cs := [.bool zr, .int .u64 (zy : Nat), .int .u64 (zn : Nat), .int .i64 zt, .int .i64 zo]) rfl rfl (Ke c0 c1 c2 c3 c4) Tryz.underlying109 rfl (by kernel_rfl) (hK _ _ ?_))
       | ((with_reducible refine qA 7 ?_); refine qa hS #[.bool false, .int .u64 0, .int .u64 0, .int .i64 0, .int .i64 0] ?_; clear hS; intro g7 w_ hS)
       | ((with_reducible refine qM ?_); (first | refine qS hS ?_ | refine qT hS ?_); clear hS; intro w_ hS; (try simp only [Act.put, Act.eval, zz, Value.cells] at hS))
       | ((with_reducible refine qK ?_); refine qC hS ?_))
      refine ⟨⟨j + 1, by go_num, hlj, Lib.hid fun i hi z hz => ?_, hS.sub (List.sublist_cons_self _ _)⟩, by simp [intOf]; omega⟩
      rcases Nat.lt_or_ge i j with h3 | h3
      ·exact HZ.out i h3 z hz
      ·obtain rfl : i = j := by omega
       rw [HZJ.out] at hz
       obtain rfl := Option.some.inj hz
       exact ⟨hz1, hz2⟩
    ·obtain rfl : j = rl.length := by omega
     have HZ2 : Hid (∀ z ∈ rl, 1 <= z.target /\ z.target <= (r : Int)) := Lib.hid fun z hz => by
      obtain ⟨i, hi⟩ := List.mem_iff_getElem?.1 hz
      exact HZ.out i (List.getElem?_eq_some_iff.1 hi).1 z hi
     clear HZ HQ2
     go_wp2_with (first
      | ((with_reducible refine qB ?_); refine qc ?_ ?_ <;> intro h_ <;> go_prune)
      | ((with_reducible refine qK ?_); refine qL hS Tryz.underlying30 ?_)
      | (go_at_call 57; refine (HCu.out _ _ _ _ _ hS HKP.out).mono ?_; clear hS; rintro r_ w_ ⟨u, rfl, hS⟩; obtain ⟨Au, cuc, rfl, _, _⟩ := Sl.shape hS.ro.2)
      | ((with_reducible refine qK ?_); refine qC hS ?_))
     obtain ⟨K2, k2, kc, hS2⟩ : ∃ K2 : (Nat -> Prop) -> World -> Prop, (∀ D w, K2 D w -> K D w) /\ (∀ D w, K2 D w -> Sl w D 2 (.slice Au cu.length cuc) cu.length (AC cu)) /\ St w0 w_ (.box g1 30 #[.int .i64 (r : Nat), .slice Al L.length cl, .int .u64 (st : Nat), .slice Ar rl.length cr, .slice An nn cn, .slice Ag ng cg] :: F) K2 := ⟨_, fun _ _ h => h.1, fun _ _ h => h.2, hS⟩
     clear hS
     have hS := hS2
     clear hS2
     go_loopw [53] (fun i wr => ∃ j : Nat, i = .int .i64 (j : Nat) /\ j <= cu.length /\ Hid (∀ i, i < j -> ∀ z, cu[i]? = some z -> (z.1 ||| z.2) &&& BM N = 0) /\ St w0 wr (.box g1 30 #[.int .i64 (r : Nat), .slice Al L.length cl, .int .u64 (st : Nat), .slice Ar rl.length cr, .slice An nn cn, .slice Ag ng cg] :: F) K2) (fun i _ => cu.length - (intOf i).toNat)
     case atStart => exact ⟨0, rfl, by omega, Lib.hid fun i h => by omega, hS⟩
     case round =>
      clear hS
      obtain ⟨j, rfl, hj, HZ, hS⟩ := hrel
      by_cases hlj : j < cu.length
      ·obtain ⟨f1, f2⟩ := Dz cu j hlj
       have hz : cu[j]? = some (cu.getD j (0, 0)) := Cf (0, 0) hlj
       generalize cu.getD j (0, 0) = z at *
       have HZJ := Lib.hid hz
       have hzs := HSM.out z (List.mem_of_getElem? hz)
       have HB : Hid ((z.1 ||| z.2) &&& BM N ≠ 0 -> kb = false) := Lib.hid (HQ3.out z (List.mem_of_getElem? hz))
       clear hz
       obtain ⟨za, zb⟩ := z
       dsimp only at f1 f2 HB hzs
       have HY : Hid (za < AE) := Lib.hid hzs.1
       have HM : Hid (zb < AE) := Lib.hid hzs.2
       have HYM : Hid (za ||| zb < AE) := Lib.hid (Kr hzs.1 hzs.2)
       clear hzs
       obtain ⟨x, hx⟩ : ∃ x, (za ||| zb) &&& BM N = x := ⟨_, rfl⟩
       rw [hx] at HB
       have HX := Lib.hid hx
       clear hx
       have HRun : Hid (∀ (w : World) t, (binOp .andNot t (.int .u64 ((za ||| zb : Nat) : Int)) (.int .u64 (N : Nat))).run Tryz.prog w = .ok (.int .u64 (x : Nat)) w) := Lib.hid fun w t => by rw [<- HX.out]; exact Hy HYM.out HN.out
       by_cases hx0 : x = 0
       ·subst hx0
        go_wp2_with (first
         | ((with_reducible refine qB ?_); refine qc ?_ ?_ <;> intro h_ <;> go_prune)
         | ((with_reducible refine qI ?_); refine qj hS Tryz.underlying28 ?_; intro b_ j_ hc0_ hc1_)
         | ((with_reducible refine qA 9 ?_); refine AY hS rfl _ rfl (by kernel_rfl) ?_; clear hS; intro g9 w_ hS; (try simp only [Act.put, Act.eval, zz, Value.cells] at hS))
         | ((with_reducible refine qM ?_); (first | refine qS hS ?_ | refine qT hS ?_); clear hS; intro w_ hS; (try simp only [Act.put, Act.eval, zz, Value.cells] at hS))
         | ((with_reducible refine qA 61 ?_); refine BigFrame.wpList_want rfl fun _ hK => AA rfl rfl rfl rfl (run_orW HY.out HM.out) (hK _ _ ?_))
         | ((with_reducible refine qA 63 ?_); refine BigFrame.wpList_want rfl fun _ hK => AA rfl rfl rfl rfl (HRun.out _ _) (hK _ _ ?_))
         | ((with_reducible refine qK ?_); refine qC hS ?_))
        refine ⟨⟨j + 1, by go_num, hlj, Lib.hid fun i hi z hz => ?_, hS.sub (List.sublist_cons_self _ _)⟩, by simp [intOf]; omega⟩
        rcases Nat.lt_or_ge i j with h3 | h3
        ·exact HZ.out i h3 z hz
        ·obtain rfl : i = j := by omega
         rw [HZJ.out] at hz
         obtain rfl := Option.some.inj hz
         exact HX.out
       ·obtain rfl : kb = false := HB.out hx0
        go_wp2_with (first
         | ((with_reducible refine qB ?_); refine qc ?_ ?_ <;> intro h_ <;> go_prune)
         | ((with_reducible refine qI ?_); refine qj hS Tryz.underlying28 ?_; intro b_ j_ hc0_ hc1_)
         | ((with_reducible refine qA 9 ?_); refine AY hS rfl _ rfl (by kernel_rfl) ?_; clear hS; intro g9 w_ hS; (try simp only [Act.put, Act.eval, zz, Value.cells] at hS))
         | ((with_reducible refine qM ?_); (first | refine qS hS ?_ | refine qT hS ?_); clear hS; intro w_ hS; (try simp only [Act.put, Act.eval, zz, Value.cells] at hS))
         | ((with_reducible refine qA 61 ?_); refine BigFrame.wpList_want rfl fun _ hK => AA rfl rfl rfl rfl (run_orW HY.out HM.out) (hK _ _ ?_))
         | ((with_reducible refine qA 63 ?_); refine BigFrame.wpList_want rfl fun _ hK => AA rfl rfl rfl rfl (HRun.out _ _) (hK _ _ ?_))
         | ((with_reducible refine qK ?_); refine qC hS ?_))
        go_ret
        exact ⟨rfl, (hS.sub ((List.sublist_cons_self _ _).trans (List.sublist_cons_self _ _))).mono KS.out fun D w h => k2 _ _ h⟩
      ·obtain rfl : j = cu.length := by omega
       have HZ3 : Hid (∀ z ∈ cu, (z.1 ||| z.2) &&& BM N = 0) := Lib.hid fun z hz => by
        obtain ⟨i, hi⟩ := List.mem_iff_getElem?.1 hz
        exact HZ.out i (List.getElem?_eq_some_iff.1 hi).1 z hi
       have HKB : Hid (kb = decide (st &&& BM N = 0)) := Lib.hid (HQ4.out HZ1.out HZ2.out HZ3.out)
       clear HZ HQ3 HQ4
       obtain ⟨x, hx⟩ : ∃ x, st &&& BM N = x := ⟨_, rfl⟩
       rw [hx] at HKB
       have HX := Lib.hid hx
       clear hx
       have HRun : Hid (∀ (w : World) t, (binOp .andNot t (.int .u64 (st : Nat)) (.int .u64 (N : Nat))).run Tryz.prog w = .ok (.int .u64 (x : Nat)) w) := Lib.hid fun w t => by rw [<- HX.out]; exact Hy HST.out HN.out
       by_cases hx0 : x = 0
       ·subst hx0
        obtain rfl : kb = true := HKB.out
        go_wp2_with (first
         | ((with_reducible refine qB ?_); refine qc ?_ ?_ <;> intro h_ <;> go_prune)
         | ((with_reducible refine qA 69 ?_); refine BigFrame.wpList_want rfl fun _ hK => AA rfl rfl rfl rfl (HRun.out _ _) (hK _ _ ?_))
         | ((with_reducible refine qK ?_); refine qC hS ?_))
        go_ret
        exact ⟨rfl, (hS.sub (List.sublist_cons_self _ _)).mono KS.out fun D w h => k2 _ _ h⟩
       ·obtain rfl : kb = false := HKB.out.trans (decide_eq_false hx0)
        go_wp2_with (first
         | ((with_reducible refine qB ?_); refine qc ?_ ?_ <;> intro h_ <;> go_prune)
         | ((with_reducible refine qA 69 ?_); refine BigFrame.wpList_want rfl fun _ hK => AA rfl rfl rfl rfl (HRun.out _ _) (hK _ _ ?_))
         | ((with_reducible refine qK ?_); refine qC hS ?_))
        go_ret
        exact ⟨rfl, (hS.sub (List.sublist_cons_self _ _)).mono KS.out fun D w h => k2 _ _ h⟩
end
section
open Go.RowKit
attribute [local go_sem ↓] Go.wp_at_zero Go.wp_at_succ
set_option maxRecDepth 20000
set_option exponentiation.threshold 5000
theorem rgood31g_any {w0 : World} {D : Nat -> Prop} {v : Value} {p : AZ} {L : List (Nat × Nat)} {s : Nat} (hp : Bj w0 D v p) (hR : RFit p L) :
  Calls Tryz.prog 28 #[v, .int .u64 (s : Nat)] w0 (Aw (fun x _ => x = .bool (goodB p s)) w0) := by
 obtain ⟨R, lk, st, rl, nl, gl⟩ := p
 obtain rfl : lk = some L := hR.links
 obtain ⟨Al, cl, Ar, cr, An, cn, Ag, cg, rfl, -⟩ := Ed hR.links hp
 dsimp only at hp ⊢
 obtain ⟨K, kp, hS⟩ : ∃ K : (Nat -> Prop) -> World -> Prop, (∀ D w, K D w -> Bj w D (.agg #[.int .i64 R, .slice Al L.length cl, .int .u64 (st : Nat), .slice Ar rl.length cr, .slice An nl.length cn, .slice Ag gl.length cg]) ⟨R, some L, st, rl, nl, gl⟩) /\ St w0 w0 [] K := ⟨_, fun _ _ h => h, St.start D3 hp⟩
 have kl : ∀ D w, K D w -> Sl w D 2 (.slice Al L.length cl) L.length (A6 L) := fun D w h => (C9 rfl (kp D w h)).1
 have kn : ∀ D w, K D w -> BH w D (.slice An nl.length cn) nl := fun D w h => (C9 rfl (kp D w h)).2.2.1
 have HL := Lib.hid (show Gy 64 L from hR.hok.inr)
 have hlen := hR.len
 have HSM : Hid (Small nl) := Lib.hid hR.fits.never
 clear hp hR kp
 obtain ⟨b, hb⟩ : ∃ b, nl.any (fun z => C3 z (closM L s)) = b := ⟨_, rfl⟩
 have HG : Hid (goodB ⟨R, some L, st, rl, nl, gl⟩ s = !b) := Lib.hid (by rw [<- hb]; rfl)
 have HB := Lib.hid hb
 clear hb
 go_enter Tryz.func28, Tryz.ntmps28
 go_wp2_with (first | ((with_reducible refine qA 2 ?_); refine AH hS rfl _ _ rfl (.agg #[.int .i64 R, .slice Al L.length cl, .int .u64 (st : Nat), .slice Ar rl.length cr, .slice An nl.length cn, .slice Ag gl.length cg]) _ rfl rfl ?_; clear hS; intro g2 w_ hS; (try simp only [Act.put, Act.eval, zz, Value.cells] at hS)))
 refine Ep [.q g2 4, .i (.slice An nl.length cn), .q g2 1, .i (.slice Al L.length cl), .i (.int .u64 (s : Nat)), .i (.int .u64 (closM L s : Nat)), .i (.bool b), .i (.bool (!b)), .i (.bool (!b))] ⟨uF, uC (h := fun w hW hN => (hS.ext hW).shut 0 rfl 4 rfl), uF, uC (h := fun w hW hN => (hS.ext hW).shut 0 rfl 1 rfl), uM, ?_, ?_, uU, uA, trivial⟩ ?_
 ·refine uT fun b__ w hW hE K hK => ?_
  have e8 := hE 8
  have e9 := hE 9
  exact AL rfl (by kernel_rfl) (by simp only [List.map_cons, List.map_nil, e8, e9]) (rclos_any (kl _ _ (hS.ext hW).ro) HL.out (by omega) s) fun v w' h hb => hK v w' h hb
 ·refine uT fun b__ w hW hE K hK => ?_
  have e6 := hE 6
  have e10 := hE 10
  exact AL rfl (by kernel_rfl) (by simp only [List.map_cons, List.map_nil, e6, e10]) (rsome_any (kn _ _ (hS.ext hW).ro) HSM.out (closM_ltT L s)) fun v w' h hb => hK v w' (h.trans (by rw [HB.out])) hb
 ·intro vs wz hW hT
  obtain ⟨e5, e6, e7, e8, e9, e10, e11, e12, e4, -⟩ := hT
  simp only [AV, Act.put, zz, ze]
  rw [e4]
  go_wp2_with fail
  go_ret
  exact Aw.mk (by rw [HG.out]; rfl) (Cj hS.below hW)
theorem KD {w : World} {x y : Operand} {a b : Array Value} : (eqGuard .neq 50 x y (.agg a) (.agg b)).run Tryz.prog w = .ok () w := by kernel_rfl
theorem run_ncube {w : World} {y n : Nat} {b : Bool} (h : (decide (y = 0) && decide (n = 0)) = b) : (binOp .neq 50 (.agg #[.int .u64 (y : Nat), .int .u64 (n : Nat)]) (.agg #[.int .u64 0, .int .u64 0])).run Tryz.prog w = .ok (.bool (!b)) w := by
 subst h
 by_cases h1 : y = 0 <;> by_cases h2 : n = 0 <;> go_simp <;> simp [h1, h2] <;> omega
set_option maxHeartbeats 4000000 in
theorem rcheck31_any {w0 : World} {D : Nat -> Prop} {v : Value} {p : AZ} {L : List (Nat × Nat)} (hp : Bj w0 D v p) (hR : RFit p L) :
  Calls Tryz.prog 14 #[v] w0 (Aw (fun x _ => x = .int .i64 (checkE p)) w0) := by
 obtain ⟨R, lk, st, rl, nl, gl⟩ := p
 obtain rfl : lk = some L := hR.links
 obtain ⟨Al, cl, Ar, cr, An, cn, Ag, cg, rfl, -⟩ := Ed hR.links hp
 dsimp only at hp ⊢
 obtain ⟨K, kp, hS⟩ : ∃ K : (Nat -> Prop) -> World -> Prop, (∀ D w, K D w -> Bj w D (.agg #[.int .i64 R, .slice Al L.length cl, .int .u64 (st : Nat), .slice Ar rl.length cr, .slice An nl.length cn, .slice Ag gl.length cg]) ⟨R, some L, st, rl, nl, gl⟩) /\ St w0 w0 [] K := ⟨_, fun _ _ h => h, St.start D3 hp⟩
 have kr : ∀ D w, K D w -> Sl w D 5 (.slice Ar rl.length cr) rl.length (B5 rl) := fun D w h => (C9 rfl (kp D w h)).2.1
 have HKP := Lib.hid kp
 have HRF := Lib.hid hR
 have hl1 := hR.fits.rlen
 have hl2 := hR.fits.nlen
 have hl3 := hR.fits.glen
 dsimp only at hl1 hl2 hl3
 clear hp kp hR
 have HE := Lib.hid (show checkE ⟨R, some L, st, rl, nl, gl⟩ = if R < 1 \/ 63 < R then 1 else if 64 < rl.length \/ 2000 < nl.length \/ 2000 < gl.length then 3
  else if D6 ⟨R, some L, st, rl, nl, gl⟩ L (B6 R.toNat) = false then 4 else if ((AZ.cubes ⟨R, some L, st, rl, nl, gl⟩).any fun z => z.1 &&& z.2 != 0) = true \/ rl.all Kg = false then 6
  else if goodB ⟨R, some L, st, rl, nl, gl⟩ st = false then 7 else 0 from rfl)
 generalize checkE ⟨R, some L, st, rl, nl, gl⟩ = RES at *
 by_cases hRr : R < 1 \/ 63 < R
 ·have hE : RES = 1 := by rw [HE.out, if_pos hRr]
  subst hE
  by_cases hR1 : R < 1
  all_goals
   go_enter Tryz.func14, Tryz.ntmps14
   go_wp2_with (first
    | ((with_reducible refine qA 1 ?_); refine AH hS rfl _ _ rfl (.agg #[.int .i64 R, .slice Al L.length cl, .int .u64 (st : Nat), .slice Ar rl.length cr, .slice An nl.length cn, .slice Ag gl.length cg]) _ rfl rfl ?_; clear hS; intro g1 w_ hS; (try simp only [Act.put, Act.eval, zz, Value.cells] at hS))
    | ((with_reducible refine qK ?_); refine qC hS ?_)
    | ((with_reducible refine qB ?_); refine qc ?_ ?_ <;> intro h_ <;> go_prune)
    )
   go_ret
   exact Aw.mk rfl hS.below
 obtain ⟨r, rfl⟩ : ∃ r : Nat, R = (r : Int) := ⟨R.toNat, by omega⟩
 have hr63 : 1 <= r /\ r <= 63 := by omega
 replace HE := Lib.hid (HE.out.trans (if_neg hRr))
 clear hRr
 rw [Int.toNat_natCast] at HE
 by_cases hN : 64 < rl.length \/ 2000 < nl.length \/ 2000 < gl.length
 ·have hE : RES = 3 := by rw [HE.out, if_pos hN]
  subst hE
  have hN1 : 64 < rl.length := by omega
  clear hN
  go_enter Tryz.func14, Tryz.ntmps14
  go_wp2_with (first
   | ((with_reducible refine qA 1 ?_); refine AH hS rfl _ _ rfl (.agg #[.int .i64 (r : Nat), .slice Al L.length cl, .int .u64 (st : Nat), .slice Ar rl.length cr, .slice An nl.length cn, .slice Ag gl.length cg]) _ rfl rfl ?_; clear hS; intro g1 w_ hS; (try simp only [Act.put, Act.eval, zz, Value.cells] at hS))
   | ((with_reducible refine qK ?_); refine qC hS ?_)
   | ((with_reducible refine qB ?_); refine qc ?_ ?_ <;> intro h_ <;> go_prune)
   )
  go_ret
  exact Aw.mk rfl hS.below
 have hN1 : rl.length <= 64 /\ nl.length <= 2000 /\ gl.length <= 2000 := by omega
 obtain ⟨hN1, hN2, hN3⟩ := hN1
 replace HE := Lib.hid (HE.out.trans (if_neg hN))
 clear hN
 obtain ⟨kb, hkb⟩ : ∃ kb, D6 ⟨(r : Int), some L, st, rl, nl, gl⟩ L (B6 r) = kb := ⟨_, rfl⟩
 have HUN : Hid (∀ (w : World) (F : List A7), St w0 w F K -> Calls Tryz.prog 56 #[.agg #[.int .i64 (r : Nat), .slice Al L.length cl, .int .u64 (st : Nat), .slice Ar rl.length cr, .slice An nl.length cn, .slice Ag gl.length cg]] w fun e w' => e = .returned (.bool (!kb)) /\ St w0 w' F K) := Lib.hid fun w F h => by
  rw [<- hkb]
  exact runknown_any HRF.out rfl hr63.1 hr63.2 h HKP.out
 rw [hkb] at HE
 clear hkb
 have HCU : Hid (∀ (w : World) (F : List A7), St w0 w F K -> Calls Tryz.prog 57 #[.agg #[.int .i64 (r : Nat), .slice Al L.length cl, .int .u64 (st : Nat), .slice Ar rl.length cr, .slice An nl.length cn, .slice Ag gl.length cg]] w fun e w' => ∃ u, e = .returned u /\ St w0 w' F fun D w => K D w /\ BH w D u (AZ.cubes ⟨(r : Int), some L, st, rl, nl, gl⟩)) := Lib.hid fun w F h => I3 HRF.out h HKP.out
 have HSM := Lib.hid HRF.out.small
 have hcl := cubes_len ⟨(r : Int), some L, st, rl, nl, gl⟩
 dsimp only at hcl
 obtain ⟨cu, hcu⟩ : ∃ cu, AZ.cubes ⟨(r : Int), some L, st, rl, nl, gl⟩ = cu := ⟨_, rfl⟩
 rw [hcu] at HE HCU HSM hcl
 clear hcu
 have hcl2 : cu.length <= 5000 := by omega
 clear hcl
 obtain ⟨gb, hgb⟩ : ∃ gb, goodB ⟨(r : Int), some L, st, rl, nl, gl⟩ st = gb := ⟨_, rfl⟩
 have HGB : Hid (∀ (w : World) (D : Nat -> Prop) (v : Value), Bj w D v ⟨(r : Int), some L, st, rl, nl, gl⟩ -> Calls Tryz.prog 28 #[v, .int .u64 (st : Nat)] w (Aw (fun x _ => x = .bool gb) w)) := Lib.hid fun w D v h => by
  rw [<- hgb]
  exact rgood31g_any h HRF.out
 rw [hgb] at HE
 clear hgb HRF
 go_enter Tryz.func14, Tryz.ntmps14
 cases kb
 ·have hE : RES = 4 := HE.out.trans (if_pos rfl)
  subst hE
  go_wp2_with (first
   | ((with_reducible refine qA 1 ?_); refine AH hS rfl _ _ rfl (.agg #[.int .i64 (r : Nat), .slice Al L.length cl, .int .u64 (st : Nat), .slice Ar rl.length cr, .slice An nl.length cn, .slice Ag gl.length cg]) _ rfl rfl ?_; clear hS; intro g1 w_ hS; (try simp only [Act.put, Act.eval, zz, Value.cells] at hS))
   | ((with_reducible refine qK ?_); refine qL hS Tryz.underlying30 ?_)
   | (go_at_call 56; refine (HUN.out _ _ hS).mono ?_; clear hS; rintro r_ w_ ⟨rfl, hS⟩)
   | ((with_reducible refine qK ?_); refine qC hS ?_)
   | ((with_reducible refine qB ?_); refine qc ?_ ?_ <;> intro h_ <;> go_prune))
  go_ret
  exact Aw.mk rfl hS.below
 replace HE := Lib.hid (HE.out.trans (if_neg (by decide)))
 go_wp2_with (first
  | ((with_reducible refine qA 1 ?_); refine AH hS rfl _ _ rfl (.agg #[.int .i64 (r : Nat), .slice Al L.length cl, .int .u64 (st : Nat), .slice Ar rl.length cr, .slice An nl.length cn, .slice Ag gl.length cg]) _ rfl rfl ?_; clear hS; intro g1 w_ hS; (try simp only [Act.put, Act.eval, zz, Value.cells] at hS))
  | ((with_reducible refine qK ?_); refine qL hS Tryz.underlying30 ?_)
  | (go_at_call 56; refine (HUN.out _ _ hS).mono ?_; clear hS; rintro r_ w_ ⟨rfl, hS⟩)
  | (go_at_call 57; refine (HCU.out _ _ hS).mono ?_; clear hS; rintro r_ w_ ⟨u, rfl, hS⟩; obtain ⟨Au, cuc, rfl, _, _⟩ := Sl.shape hS.ro.2)
  | ((with_reducible refine qK ?_); refine qC hS ?_)
  | ((with_reducible refine qB ?_); refine qc ?_ ?_ <;> intro h_ <;> go_prune))
 obtain ⟨K2, k2, kc, hS2⟩ : ∃ K2 : (Nat -> Prop) -> World -> Prop, (∀ D w, K2 D w -> K D w) /\ (∀ D w, K2 D w -> Sl w D 2 (.slice Au cu.length cuc) cu.length (AC cu)) /\ St w0 w_ [.box g1 30 #[.int .i64 (r : Nat), .slice Al L.length cl, .int .u64 (st : Nat), .slice Ar rl.length cr, .slice An nl.length cn, .slice Ag gl.length cg]] K2 := ⟨_, fun _ _ h => h.1, fun _ _ h => h.2, hS⟩
 clear hS
 have hS := hS2
 clear hS2
 go_loopw [36] (fun i wr => ∃ j : Nat, i = .int .i64 (j : Nat) /\ j <= cu.length /\ Hid (∀ i, i < j -> ∀ z, cu[i]? = some z -> (z.1 &&& z.2 != 0) = false) /\ St w0 wr [.box g1 30 #[.int .i64 (r : Nat), .slice Al L.length cl, .int .u64 (st : Nat), .slice Ar rl.length cr, .slice An nl.length cn, .slice Ag gl.length cg]] K2) (fun i _ => cu.length - (intOf i).toNat)
 case atStart => exact ⟨0, rfl, by omega, Lib.hid fun i h => by omega, hS⟩
 case round =>
  clear hS
  obtain ⟨j, rfl, hj, HZ, hS⟩ := hrel
  by_cases hlj : j < cu.length
  ·obtain ⟨f1, f2⟩ := Dz cu j hlj
   have hz : cu[j]? = some (cu.getD j (0, 0)) := Cf (0, 0) hlj
   generalize cu.getD j (0, 0) = z at *
   have HZJ := Lib.hid hz
   have hzs := HSM.out z (List.mem_of_getElem? hz)
   clear hz
   obtain ⟨za, zb⟩ := z
   dsimp only at f1 f2 hzs
   obtain ⟨eb, heb⟩ : ∃ eb, (za &&& zb != 0) = eb := ⟨_, rfl⟩
   have HEM : Hid (∀ w : World, Calls Tryz.prog 58 #[.agg #[.int .u64 (za : Nat), .int .u64 (zb : Nat)]] w (Aw (fun x _ => x = .bool eb) w)) := Lib.hid fun w => by rw [<- heb]; exact rempty_any za zb w hzs.1 hzs.2
   have HEB := Lib.hid heb
   clear heb hzs
   cases eb
   ·go_wp2_with (first
     | ((with_reducible refine qB ?_); refine qc ?_ ?_ <;> intro h_ <;> go_prune)
     | ((with_reducible refine qI ?_); refine qj hS Tryz.underlying28 ?_; intro b_ j_ hc0_ hc1_)
     | ((with_reducible refine qA 4 ?_); refine AY hS rfl _ rfl (by kernel_rfl) ?_; clear hS; intro g4 w_ hS; (try simp only [Act.put, Act.eval, zz, Value.cells] at hS))
     | ((with_reducible refine qM ?_); (first | refine qS hS ?_ | refine qT hS ?_); clear hS; intro w_ hS; (try simp only [Act.put, Act.eval, zz, Value.cells] at hS))
     | ((with_reducible refine qK ?_); refine qL hS Tryz.underlying50 ?_)
     | (go_at_call 58; refine (HEM.out _).mono ?_; rintro r_ w_ ⟨_, rfl, rfl, hb_⟩; replace hS := hS.ext hb_; clear hb_)
     | ((with_reducible refine qK ?_); refine qC hS ?_))
    refine ⟨⟨j + 1, by go_num, hlj, Lib.hid fun i hi z hz => ?_, hS.sub (List.sublist_cons_self _ _)⟩, by simp [intOf]; omega⟩
    rcases Nat.lt_or_ge i j with h3 | h3
    ·exact HZ.out i h3 z hz
    ·obtain rfl : i = j := by omega
     rw [HZJ.out] at hz
     obtain rfl := Option.some.inj hz
     exact HEB.out
   ·obtain rfl : RES = 6 := HE.out.trans (if_pos (.inl (List.any_eq_true.2 ⟨_, List.mem_of_getElem? HZJ.out, HEB.out⟩)))
    go_wp2_with (first
     | ((with_reducible refine qB ?_); refine qc ?_ ?_ <;> intro h_ <;> go_prune)
     | ((with_reducible refine qI ?_); refine qj hS Tryz.underlying28 ?_; intro b_ j_ hc0_ hc1_)
     | ((with_reducible refine qA 4 ?_); refine AY hS rfl _ rfl (by kernel_rfl) ?_; clear hS; intro g4 w_ hS; (try simp only [Act.put, Act.eval, zz, Value.cells] at hS))
     | ((with_reducible refine qM ?_); (first | refine qS hS ?_ | refine qT hS ?_); clear hS; intro w_ hS; (try simp only [Act.put, Act.eval, zz, Value.cells] at hS))
     | ((with_reducible refine qK ?_); refine qL hS Tryz.underlying50 ?_)
     | (go_at_call 58; refine (HEM.out _).mono ?_; rintro r_ w_ ⟨_, rfl, rfl, hb_⟩; replace hS := hS.ext hb_; clear hb_)
     | ((with_reducible refine qK ?_); refine qC hS ?_))
    go_ret
    exact Aw.mk rfl hS.below
  ·obtain rfl : j = cu.length := by omega
   have HZ1 : Hid ((cu.any fun z => z.1 &&& z.2 != 0) = false) := Lib.hid (by
    rw [List.any_eq_false]
    intro z hz
    obtain ⟨i, hi⟩ := List.mem_iff_getElem?.1 hz
    rw [HZ.out i (List.getElem?_eq_some_iff.1 hi).1 z hi]; decide)
   clear HZ
   go_wp2_with (first | ((with_reducible refine qB ?_); refine qc ?_ ?_ <;> intro h_ <;> go_prune) | ((with_reducible refine qK ?_); refine qC hS ?_))
   go_loopw [46] (fun i wr => ∃ j : Nat, i = .int .i64 (j : Nat) /\ j <= rl.length /\ Hid (∀ i, i < j -> ∀ z, rl[i]? = some z -> Kg z = true) /\ St w0 wr [.box g1 30 #[.int .i64 (r : Nat), .slice Al L.length cl, .int .u64 (st : Nat), .slice Ar rl.length cr, .slice An nl.length cn, .slice Ag gl.length cg]] K2) (fun i _ => rl.length - (intOf i).toNat)
   case atStart => exact ⟨0, rfl, by omega, Lib.hid fun i h => by omega, hS⟩
   case round =>
    clear hS
    obtain ⟨j, rfl, hj, HZ, hS⟩ := hrel
    by_cases hlj : j < rl.length
    ·obtain ⟨b, o, rfl, c0, c1, c2, c3, c4⟩ := rr_at (kr _ _ (k2 _ _ hS.ro)) hlj
     have hz : rl[j]? = some (rl.getD j Bn) := Cf Bn hlj
     generalize rl.getD j Bn = z at *
     have HZJ := Lib.hid hz
     clear hz
     obtain ⟨zr, zy, zn, zt, zo⟩ := z
     dsimp only at c0 c1 c2 c3 c4
     obtain ⟨zz, hzz⟩ : ∃ zz, (!(decide (zy = 0) && decide (zn = 0))) = zz := ⟨_, rfl⟩
     have HRV : Hid (Kg ⟨zr, zy, zn, zt, zo⟩ = (!zr || !zz)) := Lib.hid (by unfold Kg; rw [<- hzz, Bool.not_not]; rfl)
     have HNC : Hid (∀ w : World, (binOp .neq 50 (.agg #[.int .u64 (zy : Nat), .int .u64 (zn : Nat)]) (.agg #[.int .u64 0, .int .u64 0])).run Tryz.prog w = .ok (.bool zz) w) := Lib.hid fun w => by rw [<- hzz]; exact run_ncube rfl
     clear hzz
     cases zr
     ·go_wp2_with (first
       | ((with_reducible refine qB ?_); refine qc ?_ ?_ <;> intro h_ <;> go_prune)
       | ((with_reducible refine qA 49 ?_); refine BigFrame.wpList_want rfl fun _ hK => Be (cs := [.bool false, .int .u64 (zy : Nat), .int .u64 (zn : Nat), .int .i64 zt, .int .i64 zo]) rfl rfl (Ke c0 c1 c2 c3 c4) Tryz.underlying109 rfl (by kernel_rfl) (hK _ _ ?_))
       | ((with_reducible refine qA 6 ?_); refine qa hS #[.bool false, .int .u64 0, .int .u64 0, .int .i64 0, .int .i64 0] ?_; clear hS; intro g6 w_ hS)
       | ((with_reducible refine qM ?_); (first | refine qS hS ?_ | refine qT hS ?_); clear hS; intro w_ hS; (try simp only [Act.put, Act.eval, zz, Value.cells] at hS))
       | ((with_reducible refine qK ?_); refine qC hS ?_))
      refine ⟨⟨j + 1, by go_num, hlj, Lib.hid fun i hi z hz => ?_, hS.sub (List.sublist_cons_self _ _)⟩, by simp [intOf]; omega⟩
      rcases Nat.lt_or_ge i j with h3 | h3
      ·exact HZ.out i h3 z hz
      ·obtain rfl : i = j := by omega
       rw [HZJ.out] at hz
       obtain rfl := Option.some.inj hz
       rfl
     ·cases zz
      ·go_wp2_with (first
        | ((with_reducible refine qA 49 ?_); refine BigFrame.wpList_want rfl fun _ hK => Be (cs := [.bool true, .int .u64 (zy : Nat), .int .u64 (zn : Nat), .int .i64 zt, .int .i64 zo]) rfl rfl (Ke c0 c1 c2 c3 c4) Tryz.underlying109 rfl (by kernel_rfl) (hK _ _ ?_))
        | ((with_reducible refine qA 6 ?_); refine qa hS #[.bool false, .int .u64 0, .int .u64 0, .int .i64 0, .int .i64 0] ?_; clear hS; intro g6 w_ hS)
        | ((with_reducible refine qM ?_); (first | refine qS hS ?_ | refine qT hS ?_); clear hS; intro w_ hS; (try simp only [Act.put, Act.eval, zz, Value.cells] at hS))
        | ((with_reducible refine qk 50 ?_); refine EP hS 0 rfl _ _ rfl _ _ rfl _ _ rfl _ _ rfl rfl Tryz.underlying50 rfl (by kernel_rfl) ?_)
        | ((with_reducible refine qA 55 ?_); refine BigFrame.wpList_want rfl fun _ hK => BP rfl (ps := []) (by simp) (cells := #[.int .u64 0, .int .u64 0]) (by kernel_rfl) (hK _ _ ?_))
        | ((with_reducible refine qA 56 ?_); refine BigFrame.wpList_want rfl fun _ hK => AA rfl rfl rfl KD (HNC.out _) (hK _ _ ?_))
        | ((with_reducible refine qB ?_); refine qc ?_ ?_ <;> intro h_ <;> go_prune)
        | ((with_reducible refine qK ?_); refine qC hS ?_))
       refine ⟨⟨j + 1, by go_num, hlj, Lib.hid fun i hi z hz => ?_, hS.sub (List.sublist_cons_self _ _)⟩, by simp [intOf]; omega⟩
       rcases Nat.lt_or_ge i j with h3 | h3
       ·exact HZ.out i h3 z hz
       ·obtain rfl : i = j := by omega
        rw [HZJ.out] at hz
        obtain rfl := Option.some.inj hz
        exact HRV.out
      ·obtain rfl : RES = 6 := HE.out.trans (if_pos (.inr (List.all_eq_false.2 ⟨_, List.mem_of_getElem? HZJ.out, by rw [HRV.out]; decide⟩)))
       go_wp2_with (first
        | ((with_reducible refine qA 49 ?_); refine BigFrame.wpList_want rfl fun _ hK => Be (cs := [.bool true, .int .u64 (zy : Nat), .int .u64 (zn : Nat), .int .i64 zt, .int .i64 zo]) rfl rfl (Ke c0 c1 c2 c3 c4) Tryz.underlying109 rfl (by kernel_rfl) (hK _ _ ?_))
        | ((with_reducible refine qA 6 ?_); refine qa hS #[.bool false, .int .u64 0, .int .u64 0, .int .i64 0, .int .i64 0] ?_; clear hS; intro g6 w_ hS)
        | ((with_reducible refine qM ?_); (first | refine qS hS ?_ | refine qT hS ?_); clear hS; intro w_ hS; (try simp only [Act.put, Act.eval, zz, Value.cells] at hS))
        | ((with_reducible refine qk 50 ?_); refine EP hS 0 rfl _ _ rfl _ _ rfl _ _ rfl _ _ rfl rfl Tryz.underlying50 rfl (by kernel_rfl) ?_)
        | ((with_reducible refine qA 55 ?_); refine BigFrame.wpList_want rfl fun _ hK => BP rfl (ps := []) (by simp) (cells := #[.int .u64 0, .int .u64 0]) (by kernel_rfl) (hK _ _ ?_))
        | ((with_reducible refine qA 56 ?_); refine BigFrame.wpList_want rfl fun _ hK => AA rfl rfl rfl KD (HNC.out _) (hK _ _ ?_))
        | ((with_reducible refine qB ?_); refine qc ?_ ?_ <;> intro h_ <;> go_prune)
        | ((with_reducible refine qK ?_); refine qC hS ?_))
       go_ret
       exact Aw.mk rfl hS.below
    ·obtain rfl : j = rl.length := by omega
     have HZ2 : Hid (rl.all Kg = true) := Lib.hid (List.all_eq_true.2 fun z hz => by
      obtain ⟨i, hi⟩ := List.mem_iff_getElem?.1 hz
      exact HZ.out i (List.getElem?_eq_some_iff.1 hi).1 z hi)
     replace HE := Lib.hid (HE.out.trans (if_neg (by rw [HZ1.out, HZ2.out]; simp)))
     clear HZ
     cases gb
     ·obtain rfl : RES = 7 := HE.out
      go_wp2_with (first
       | ((with_reducible refine qB ?_); refine qc ?_ ?_ <;> intro h_ <;> go_prune)
       | ((with_reducible refine qK ?_); refine qL hS Tryz.underlying30 ?_)
       | (go_at_call 28; refine (HGB.out _ _ _ (HKP.out _ _ (k2 _ _ hS.ro))).mono ?_; rintro r_ w_ ⟨_, rfl, rfl, hb_⟩; replace hS := hS.ext hb_; clear hb_)
       | ((with_reducible refine qK ?_); refine qC hS ?_))
      go_ret
      exact Aw.mk rfl hS.below
     ·obtain rfl : RES = 0 := HE.out
      go_wp2_with (first
       | ((with_reducible refine qB ?_); refine qc ?_ ?_ <;> intro h_ <;> go_prune)
       | ((with_reducible refine qK ?_); refine qL hS Tryz.underlying30 ?_)
       | (go_at_call 28; refine (HGB.out _ _ _ (HKP.out _ _ (k2 _ _ hS.ro))).mono ?_; rintro r_ w_ ⟨_, rfl, rfl, hb_⟩; replace hS := hS.ext hb_; clear hb_)
       | ((with_reducible refine qK ?_); refine qC hS ?_))
      go_ret
      exact Aw.mk rfl hS.below
end
section
open Go.RowKit
attribute [local go_sem ↓] Go.wp_at_zero Go.wp_at_succ
set_option maxRecDepth 20000
set_option exponentiation.threshold 5000
theorem run_snd (g : Nat) (w : World) : (Instr.indexAt 107 (.pointer (some ⟨g, 0, none⟩)) (.int .i64 1)).run Tryz.prog w = .ok (.pointer (some ⟨g, 1, none⟩)) w := by
 go_simp
end
section
open Go.RowKit
attribute [local go_sem ↓] Go.wp_at_zero Go.wp_at_succ
set_option maxRecDepth 20000
set_option exponentiation.threshold 5000
theorem run_fst (g : Nat) (w : World) : (Instr.indexAt 107 (.pointer (some ⟨g, 0, none⟩)) (.int .i64 0)).run Tryz.prog w = .ok (.pointer (some ⟨g, 0, none⟩)) w := by
 go_simp
theorem AN_one {kd : List (Nat × (Bool × Nat))} (hk : ∀ x ∈ kd, x.2.1 = true -> 1 <= x.2.2) (w : World) (v : Value) (i : Nat) : AN kd i (w, ⟨[v], []⟩) := by
 unfold AN
 split
 ·rename_i s hs
  unfold Fy at hs
  obtain ⟨y, hy, e⟩ := Option.map_eq_some_iff.1 hs
  have := hk y (List.mem_of_find?_eq_some hy) (by rw [e])
  rw [e] at this
  exact this
 ·simp
 ·trivial
section
variable {w0 : World} {F : List A7} {K : (Nat -> Prop) -> World -> Prop} {d : AD} {p p' : World × AG} {kd : List (Nat × (Bool × Nat))} {i : Nat}
variable {P : Program} {o : Oper} {a : Act} {Kt : Act -> World -> Prop} {Q : Exit -> Act -> World -> Prop}
theorem KG (hnd : (kd.map (·.2)).Nodup) {j : Nat} (hki : Fy kd i = some (false, j)) {f : FuncId} {xs : Array Operand} {ts : Array TypeId} {vs : List Value} (ho : o.op = .call { callee := .value (.func f), args := xs, argTypes := ts }) (hc : C8 P f = true) (hv : xs.toList.map a.eval = vs)
  (h : Calls P f vs.toArray p.1 (Aw (fun x w' => (d.src j x).holds p.1.heap.size w') p.1))
  (hK : ∀ v w', (j, v) ∈ w'.2.b -> AR w0 F K d p w' /\ (∀ j, j ≠ i -> AN kd j p -> AN kd j w') -> Kt (a.put o.dst v) w'.1) : o.wp P a p.1 Kt Q :=
 CI ho hc hv h fun _ w' ⟨x, he, hx, hb⟩ => ⟨x, he, hK x (w', ⟨p.2.r, (j, x) :: p.2.b⟩) (List.mem_cons_self ..) (AR.src hnd hki hb hx)⟩
end
def rbD (bs : List Nat) (za zb : Nat) : AD := ⟨5, 1, 3, fun s => match s with | 0 => bs.length | 1 => bs.length + (Az za).length | _ => bs.length + (Az za).length + (Az zb).length, fun s => match s with | 0 => Ad bs | 1 => Ad bs ++ Ad (Az za) | _ => Ad bs ++ Ad (Az za) ++ Ad (Az zb), fun j v => match j with | 0 => .own v 5 1 (Az za).length (Ad (Az za)) | _ => .own v 5 1 (Az zb).length (Ad (Az zb))⟩
def rbK : List (Nat × (Bool × Nat)) := [(4, (false, 0)), (5, (true, 1)), (9, (false, 1)), (10, (true, 2))]
set_option maxHeartbeats 1000000 in
theorem rhbytes_any {w0 : World} {D : Nat -> Prop} {pv : Value} {L : List (Nat × Nat)} (h : Sl w0 D 2 pv L.length (A6 L)) (hH : Hf L) (hl : L.length <= 900000) : Calls Tryz.prog 162 #[pv] w0 fun e w' => ∃ v, e = .returned v /\ St w0 w' [.own v 5 1 (CB L).length (Ad (CB L))] fun _ _ => True := by
 obtain ⟨A, c, rfl, _, _⟩ := h.shape
 obtain ⟨K, kp, hS⟩ : ∃ K : (Nat -> Prop) -> World -> Prop, (∀ D w, K D w -> Sl w D 2 (.slice A L.length c) L.length (A6 L)) /\ St w0 w0 [] K := ⟨_, fun _ _ h => h, St.start (Aj (by decide)) h⟩
 clear h
 have hlT : Hid (L.length < AE) := Lib.hid (by rw [BZ]; omega)
 have HQ := Lib.hid (AB L.length)
 go_enter Tryz.func162, Tryz.ntmps162
 go_wp2_with (first
  | ((with_reducible refine qA 8 ?_); refine BigFrame.wpList_want rfl fun _ hK => Cd (vx := .int .i64 (L.length : Nat)) (v := .int .u64 (L.length : Nat)) rfl rfl (BS hlT.out) (hK _ _ ?_))
  | (go_at_call 161; refine (DM L.length hlT.out _).mono ?_; rintro e w_ ⟨v1, rfl, hs, hb_⟩; replace hS := hS.new hb_ (.own v1 5 1 (Az L.length).length (Ad (Az L.length))) hs; clear hs hb_))
 go_loopw [3, 12] (fun ov i wr => ∃ (j : Nat) (sv : Value), i = .int .i64 (j : Nat) /\ sv = ov /\ j <= L.length /\ St w0 wr [.own sv 5 1 (Az L.length ++ Ch (L.take j)).length (Ad (Az L.length ++ Ch (L.take j)))] K) (fun _ i _ => L.length - (intOf i).toNat)
 case atStart => exact ⟨0, v1, rfl, rfl, by omega, by simpa [Ch] using hS⟩
 case round =>
  clear hS
  obtain ⟨j, sv, rfl, rfl, hj, hS⟩ := hrel
  by_cases hlj : j < L.length
  ·obtain ⟨f1, f2⟩ := Bk L j hlj
   have HST := Lib.hid (Jo (Cf (0, 0) hlj))
   have hm := hH.role (L.getD j (0, 0)) (by rw [List.getD_eq_getElem?_getD, List.getElem?_eq_getElem hlj]; exact List.getElem_mem hlj)
   generalize L.getD j (0, 0) = z at *
   obtain ⟨za, zb⟩ := z
   dsimp only at f1 f2 hm HST
   have HA : Hid (za < AE) := Lib.hid (by rw [BZ]; omega)
   have HB : Hid (zb < AE) := Lib.hid (by rw [BZ]; omega)
   have hLN : (Az L.length ++ Ch (L.take j)).length <= 11 + 22 * L.length := by
    have h1 := DC (L.take j)
    have h2 := HQ.out
    rw [List.length_take] at h1
    rw [List.length_append]; omega
   have hpa := AB za
   have hpb := AB zb
   generalize hBS : Az L.length ++ Ch (L.take j) = bs at *
   have HE : Hid (Az L.length ++ Ch (L.take (j + 1)) = bs ++ Az za ++ Az zb) := Lib.hid (by rw [HST.out, <- hBS]; simp)
   have hb0 : Hid (bs.length + (Az za).length <= 1000000000000 /\ (bs.length + (Az za).length) * 1 <= 140737488355328 /\ bs.length + (Az za).length + (Az zb).length <= 1000000000000 /\ (bs.length + (Az za).length + (Az zb).length) * 1 <= 140737488355328) := Lib.hid (by omega)
   clear HST hBS hLN hpa hpb
   go_wp2_with (first
    | ((with_reducible refine qB ?_); refine qc ?_ ?_ <;> intro h_ <;> go_prune)
    | ((with_reducible refine qI ?_); refine qj hS Tryz.underlying25 ?_; intro b_ j_ hc0_ hc1_)
    | ((with_reducible refine qA 5 ?_); refine AY hS rfl _ rfl (by kernel_rfl) ?_; clear hS; intro g5 w_ hS; (try simp only [Act.put, Act.eval, zz, Value.cells] at hS))
    | ((with_reducible refine qM ?_); (first | refine qS hS ?_ | refine qT hS ?_); clear hS; intro w_ hS; (try simp only [Act.put, Act.eval, zz, Value.cells] at hS))
    | ((with_reducible refine qK ?_); refine qL hS Tryz.underlying107 ?_))
   have hA0 : FB ⟨[sv], []⟩ 0 sv := ⟨[], [], rfl, rfl⟩
   have hJ0 : AJ w0 [.box g5 107 #[.int .i64 (za : Nat), .int .i64 (zb : Nat)]] K (rbD bs za zb) (w_.drew, ⟨[sv], []⟩) := ⟨hS.swap.drew, show 1 <= 3 by decide⟩
   have hN0 := AN_one (kd := rbK) (by decide) w_.drew sv
   have hRr := @AR.refl w0 [.box g5 107 #[.int .i64 (za : Nat), .int .i64 (zb : Nat)]] K (rbD bs za zb)
   have hRt := @AR.trans w0 [.box g5 107 #[.int .i64 (za : Nat), .int .i64 (zb : Nat)]] K (rbD bs za zb)
   clear hS
   refine FC (AR w0 [.box g5 107 #[.int .i64 (za : Nat), .int .i64 (zb : Nat)]] K (rbD bs za zb)) (AN rbK) (⟨[sv], []⟩) hRr hRt [.i sv, .q g5 0, .n ((za : Nat) : Int), .i (.int .u64 ((za : Nat) : Int)), .s (fun v w => (0, v) ∈ w.2.b) fun v w w' h hb => hb.2.2 _ h, .s (fun v w => FB w.2 1 v) fun v w w' h hb => h.mono hb.2.1, .q g5 1, .n ((zb : Nat) : Int), .i (.int .u64 ((zb : Nat) : Int)), .s (fun v w => (1, v) ∈ w.2.b) fun v w w' h hb => hb.2.2 _ h, .s (fun v w => FB w.2 2 v) fun v w w' h hb => h.mono hb.2.1, .s (fun v w => FB w.2 2 v) fun v w w' h hb => h.mono hb.2.1] ?_ ⟨uM, uI (h := fun w hW hN => run_fst g5 _), uC (h := fun w hW hN => ((hW.1 hJ0).1.holds (.box g5 107 #[.int .i64 (za : Nat), .int .i64 (zb : Nat)]) (List.mem_append_right _ (List.mem_singleton.2 rfl))).2.cell 0), uE (h := fun w hW hN => BS HA.out), ?_, ?_, uI (h := fun w hW hN => run_snd g5 _), uC (h := fun w hW hN => ((hW.1 hJ0).1.holds (.box g5 107 #[.int .i64 (za : Nat), .int .i64 (zb : Nat)]) (List.mem_append_right _ (List.mem_singleton.2 rfl))).2.cell 1), uE (h := fun w hW hN => BS HB.out), ?_, ?_, uA, trivial⟩ ?_
   ·first | assumption | (intro i; (try dsimp only); split <;> first | trivial | assumption | (left; assumption))
   ·refine uG fun b__ w hW hN hE K hK => ?_
    have e19 := hE 19
    exact KG (kd := rbK) (by decide) rfl rfl (by kernel_rfl) (by simp only [List.map_cons, List.map_nil, e19]) (DM za HA.out _) hK
   ·refine uG fun b__ w hW hN hE K hK => ?_
    have e16 := hE 16
    have e20 := hE 20
    exact BG (kd := rbK) (by decide) rfl rfl Ga hN (by rw [e16]; exact hA0.mono hW.2.1) (hW.1 hJ0) (Sl.of_own ((hW.1 hJ0).side e20)) (B7 _) rfl rfl (by exact hb0.out.1) (by exact hb0.out.2.1) (show 0 + 1 < 3 by decide) hK
   ·refine uG fun b__ w hW hN hE K hK => ?_
    have e24 := hE 24
    exact KG (kd := rbK) (by decide) rfl rfl (by kernel_rfl) (by simp only [List.map_cons, List.map_nil, e24]) (DM zb HB.out _) hK
   ·refine uG fun b__ w hW hN hE K hK => ?_
    have e21 := hE 21
    have e25 := hE 25
    exact BG (kd := rbK) (by decide) rfl rfl Ga hN e21 (hW.1 hJ0) (Sl.of_own ((hW.1 hJ0).side e25)) (B7 _) rfl rfl (by exact hb0.out.2.2.1) (by exact hb0.out.2.2.2) (show 1 + 1 < 3 by decide) hK
   ·intro vs wz hW hT
    obtain ⟨e16, e17, e18, e19, e20, e21, e22, e23, e24, e25, e26, e3, -⟩ := hT
    have bx : (fun _ : Nat => True) 0 := trivial
    simp only [AV, Act.put, zz, ze]
    have hJ := (hW.1 hJ0).last e3 rfl
    simp only [rbD] at hJ
    have hS := hJ.sub (F' := [_]) ((List.nil_sublist _).cons_cons _)
    generalize vs 3 = v3 at *
    generalize wz.1 = wf at *
    clear hW hJ0 hRr hRt hN0 hA0 hJ e3
    go_wp2_with fail
    refine ⟨⟨j + 1, v3, by go_num, rfl, hlj, ?_⟩, by simp [intOf]; omega⟩
    rw [HE.out, show Ad (bs ++ Az za ++ Az zb) = Ad bs ++ Ad (Az za) ++ Ad (Az zb) by simp [Ad], show (bs ++ Az za ++ Az zb).length = bs.length + (Az za).length + (Az zb).length by rw [List.length_append, List.length_append]]
    exact hS
  ·obtain rfl : j = L.length := by omega
   rw [List.take_length] at hS
   go_wp2_with (first | ((with_reducible refine qB ?_); refine qc ?_ ?_ <;> intro h_ <;> go_prune))
   go_ret
   exact ⟨_, rfl, hS.mono (AF.pure True) fun _ _ _ => trivial⟩
end
section
open Go.RowKit
attribute [local go_sem ↓] Go.wp_at_zero Go.wp_at_succ
set_option maxRecDepth 20000
set_option exponentiation.threshold 5000
set_option maxHeartbeats 4000000 in
theorem rpbytes_any {w0 : World} {D : Nat -> Prop} {v : Value} {p : AZ} {L : List (Nat × Nat)} (hp : Bj w0 D v p) (hR : RFit p L) (hc : checkE p = 0) :
  Calls Tryz.prog 111 #[v] w0 (Aw (fun x w' => FA w' w0.heap.size x (Ds p)) w0) := by
 obtain ⟨Al, cl, Ar, cr, An, cn, Ag, cg, rfl, -⟩ := Ed hR.links hp
 obtain ⟨L', r, hL, hr, hr1, hr63, hl1, hl2, hl3, -, htg⟩ := G2 hc
 obtain rfl : L = L' := by rw [hR.links] at hL; injection hL
 clear hL hc
 have HTG := Lib.hid htg
 have HPB : Hid (Ds p = Az r ++ (Az (CB L).length ++ CB L) ++ Bc p.start ++ Az p.rules.length ++ Bu p.rules ++ AU p.never ++ AU p.goal) := Lib.hid (by unfold Ds H6; rw [hR.links, hr]; rfl)
 rw [hr] at hp ⊢
 obtain ⟨K, kl, kr, kn, kg, hS⟩ : ∃ K : (Nat -> Prop) -> World -> Prop, (∀ D w, K D w -> Sl w D 2 (.slice Al L.length cl) L.length (A6 L)) /\ (∀ D w, K D w -> Sl w D 5 (.slice Ar p.rules.length cr) p.rules.length (B5 p.rules)) /\ (∀ D w, K D w -> Sl w D 2 (.slice An p.never.length cn) p.never.length (AC p.never)) /\ (∀ D w, K D w -> Sl w D 2 (.slice Ag p.goal.length cg) p.goal.length (AC p.goal)) /\ St w0 w0 [] K := ⟨_, fun _ _ h => (C9 hR.links h).1, fun _ _ h => (C9 hR.links h).2.1, fun _ _ h => (C9 hR.links h).2.2.1, fun _ _ h => (C9 hR.links h).2.2.2, St.start D3 hp⟩
 have hlL := hR.len
 have hhl : (CB L).length <= 23000 := by
  have h1 := DC L
  have h2 := AB L.length
  unfold CB; rw [List.length_append]; omega
 have HSt : Hid (p.start < AE) := Lib.hid hR.fits.start
 have hsl : (Bc p.start).length <= 523 := Bh (BO hR.fits.start).1
 have hnl : (AU p.never).length <= 2200000 := by
  have h1 := EX p.never hR.fits.never
  have h2 := AB p.never.length
  unfold AU; rw [List.length_append]; omega
 have hgl : (AU p.goal).length <= 2200000 := by
  have h1 := EX p.goal hR.fits.goal
  have h2 := AB p.goal.length
  unfold AU; rw [List.length_append]; omega
 have HRB : Hid (∀ z ∈ p.rules, z.yes < 2 ^ 4096 /\ z.no < 2 ^ 4096) := Lib.hid fun z hz => ⟨(BO (hR.fits.rules z hz).1).1, (BO (hR.fits.rules z hz).2).1⟩
 have HRT := Lib.hid hR.fits.rules
 have hn1 := AB r
 have hn2 := AB (CB L).length
 have hn3 := AB p.rules.length
 have hrT : Hid (r < AE) := Lib.hid (by unfold AE; omega)
 have hlT : Hid (p.rules.length < AE) := Lib.hid (by unfold AE; omega)
 have HLB : Hid (∀ (w : World) (D : Nat -> Prop) (pv : Value), Sl w D 2 pv L.length (A6 L) -> Calls Tryz.prog 162 #[pv] w fun e w' => ∃ v, e = .returned v /\ St w w' [.own v 5 1 (CB L).length (Ad (CB L))] fun _ _ => True) := Lib.hid fun w D pv h => rhbytes_any h hR.hok (by omega)
 have HCN : Hid (∀ (w : World) (D : Nat -> Prop) (v : Value), Sl w D 2 v p.never.length (AC p.never) -> Calls Tryz.prog 166 #[v] w (Aw (fun x w' => FA w' w.heap.size x (AU p.never)) w)) := Lib.hid fun w D v h => I2 v p.never w D h hR.fits.never (by omega)
 have HCG : Hid (∀ (w : World) (D : Nat -> Prop) (v : Value), Sl w D 2 v p.goal.length (AC p.goal) -> Calls Tryz.prog 166 #[v] w (Aw (fun x w' => FA w' w.heap.size x (AU p.goal)) w)) := Lib.hid fun w D v h => I2 v p.goal w D h hR.fits.goal (by omega)
 clear hp hr htg hR
 obtain ⟨hL2, hhL⟩ : ∃ x, x = CB L := ⟨_, rfl⟩
 rw [<- hhL] at HPB hhl hn2 HLB
 clear hhL
 obtain ⟨cN, hcN⟩ : ∃ x, x = AU p.never := ⟨_, rfl⟩
 rw [<- hcN] at HPB hnl HCN
 clear hcN
 obtain ⟨cG, hcG⟩ : ∃ x, x = AU p.goal := ⟨_, rfl⟩
 rw [<- hcG] at HPB hgl HCG
 clear hcG
 have hpl : (Az hL2.length ++ hL2).length <= 24000 := by rw [List.length_append]; omega
 go_enter Tryz.func111, Tryz.ntmps111
 go_wp2_with (first
  | ((with_reducible refine qA 1 ?_); refine AH hS rfl _ _ rfl (.agg #[.int .i64 (r : Nat), .slice Al L.length cl, .int .u64 (p.start : Nat), .slice Ar p.rules.length cr, .slice An p.never.length cn, .slice Ag p.goal.length cg]) _ rfl rfl ?_; clear hS; intro g1 w_ hS; (try simp only [Act.put, Act.eval, zz, Value.cells] at hS))
  | ((with_reducible refine qA 8 ?_); refine BigFrame.wpList_want rfl fun _ hK => Cd (vx := .int .i64 (r : Nat)) (v := .int .u64 (r : Nat)) rfl rfl (BS hrT.out) (hK _ _ ?_))
  | ((with_reducible refine qA 25 ?_); refine BigFrame.wpList_want rfl fun _ hK => Cd (vx := .int .i64 (p.rules.length : Nat)) (v := .int .u64 (p.rules.length : Nat)) rfl rfl (BS hlT.out) (hK _ _ ?_))
  | (go_at_call 161; first | ((with_reducible show Calls _ _ #[.int .u64 (r : Nat)] _ _); refine (DM r hrT.out _).mono ?_; rintro r_ w2 ⟨v2, rfl, h2, hb2⟩; replace hS := hS.owned hb2 h2; clear h2 hb2) | (refine (DM p.rules.length hlT.out _).mono ?_; rintro r_ w2 ⟨v2, rfl, h2, hb2⟩; replace hS := hS.owned hb2 h2; clear h2 hb2))
  | (go_at_call 162; refine (HLB.out _ _ _ (kl _ _ hS.ro)).mono ?_; rintro e w_ ⟨v1, rfl, hs⟩; replace hS := hS.new hs.below (.own v1 5 1 hL2.length (Ad hL2)) (hs.own 0 rfl); clear hs)
  | (go_at_call 159; refine (Gf _ hL2 (by omega) _ _ (Sl.of_own (hS.own 0 rfl))).mono ?_; rintro r_ w2 ⟨v2, rfl, h2, hb2⟩; replace hS := hS.owned hb2 h2; replace hS := hS.sub (.cons_cons _ (.cons _ (.refl _))); clear h2 hb2)
  | (go_at_call 163; refine (GW p.start HSt.out _).mono ?_; rintro r_ w2 ⟨v2, rfl, h2, hb2⟩; replace hS := hS.owned hb2 h2; clear h2 hb2)
  | ((with_reducible refine qA 15 ?_); refine Dp hS 1 rfl _ _ _ rfl Dc _ _ _ rfl rfl _ _ _ _ rfl (Sl.of_own (hS.own 0 rfl)) (B7 _) (by unfold maxLen; omega) (by omega) ?_; clear hS; intro v_ w_ hS; (try simp only [Act.put, Act.eval, zz, Value.cells] at hS); replace hS := hS.sub (.cons _ (.refl _)))
  | ((with_reducible refine qA 20 ?_); refine Dp hS 1 rfl _ _ _ rfl Dc _ _ _ rfl rfl _ _ _ _ rfl (Sl.of_own (hS.own 0 rfl)) (B7 _) (by unfold maxLen; omega) (by omega) ?_; clear hS; intro v_ w_ hS; (try simp only [Act.put, Act.eval, zz, Value.cells] at hS); replace hS := hS.sub (.cons _ (.refl _)))
  | ((with_reducible refine qA 27 ?_); refine Dp hS 1 rfl _ _ _ rfl Dc _ _ _ rfl rfl _ _ _ _ rfl (Sl.of_own (hS.own 0 rfl)) (B7 _) (by unfold maxLen; omega) (by omega) ?_; clear hS; intro v_ w_ hS; (try simp only [Act.put, Act.eval, zz, Value.cells] at hS); replace hS := hS.sub (.cons _ (.refl _)))
  | ((with_reducible refine qK ?_); refine qC hS ?_))
 obtain ⟨B0, hB0⟩ : ∃ x, x = Az r ++ (Az hL2.length ++ hL2) ++ Bc p.start ++ Az p.rules.length := ⟨_, rfl⟩
 have hb0 : B0.length <= 25000 := by rw [hB0]; simp only [List.length_append]; simp only [List.length_append] at hpl; omega
 have hS0 : St w0 w_ [.own v_ 5 1 B0.length (Ad B0), .box g1 30 #[.int .i64 (r : Nat), .slice Al L.length cl, .int .u64 (p.start : Nat), .slice Ar p.rules.length cr, .slice An p.never.length cn, .slice Ag p.goal.length cg]] K := by
  have e1 : (Az r).length + (Az hL2.length ++ hL2).length + (Bc p.start).length + (Az p.rules.length).length = B0.length := by rw [hB0]; simp only [List.length_append]
  have e2 : Ad (Az r) ++ Ad (Az hL2.length ++ hL2) ++ Ad (Bc p.start) ++ Ad (Az p.rules.length) = Ad B0 := by rw [hB0]; simp [Ad]
  rw [e1, e2] at hS; exact hS
 rw [<- hB0] at HPB
 clear hS hB0 hpl hn1 hn2 hn3 hsl hhl
 go_loopw [3, 31] (fun o i wr => ∃ (j : Nat) (ov : Value), j <= p.rules.length /\ i = .int .i64 (j : Nat) /\ o = ov /\ St w0 wr [.own ov 5 1 (B0 ++ Bu (p.rules.take j)).length (Ad (B0 ++ Bu (p.rules.take j))), .box g1 30 #[.int .i64 (r : Nat), .slice Al L.length cl, .int .u64 (p.start : Nat), .slice Ar p.rules.length cr, .slice An p.never.length cn, .slice Ag p.goal.length cg]] K) (fun _ i _ => p.rules.length - (intOf i).toNat)
 case atStart => exact ⟨0, v_, by omega, rfl, rfl, by simpa [Bu] using hS0⟩
 case round =>
  clear hS0
  obtain ⟨j, ov, hj, rfl, rfl, hS⟩ := hrel
  have hrl := F9 (l := p.rules.take j) fun z hz => HRB.out z (List.mem_of_mem_take hz)
  rw [List.length_take] at hrl
  have hbl : (B0 ++ Bu (p.rules.take j)).length <= 200000 := by rw [List.length_append]; omega
  by_cases hlj : j < p.rules.length
  ·obtain ⟨b, o, rfl, c0, c1, c2, c3, c4⟩ := rr_at (kr _ _ hS.ro) hlj
   have HST := Lib.hid (J9 hlj)
   have hzm : p.rules.getD j Bn ∈ p.rules := by rw [List.getD_eq_getElem?_getD, List.getElem?_eq_getElem hlj]; exact List.getElem_mem hlj
   obtain ⟨t, ht, ht64⟩ := HTG.out _ hzm
   obtain ⟨hty, htn⟩ := HRT.out _ hzm
   clear hzm
   generalize p.rules.getD j Bn = z at *
   obtain ⟨zr, zy, zn, zt, zo⟩ := z
   dsimp only at c0 c1 c2 c3 c4 HST ht hty htn
   subst ht
   have htT : Hid (t < AE) := Lib.hid (by unfold AE; omega)
   have HTY := Lib.hid hty
   have HTN := Lib.hid htn
   have hfl := FQ zr
   have hcl : (Bd zy zn).length <= 1046 := by
    have h1 := Bh (BO hty).1
    have h2 := Bh (BO htn).1
    unfold Bd; rw [List.length_append]; omega
   have htl := AB t
   obtain ⟨bs, hbs⟩ : ∃ x, x = B0 ++ Bu (p.rules.take j) := ⟨_, rfl⟩
   rw [<- hbs] at hS hbl
   have HE : Hid (B0 ++ Bu (p.rules.take (j + 1)) = bs ++ BI zr ++ Bd zy zn ++ Az t) := Lib.hid (by rw [HST.out, <- List.append_assoc, <- hbs]; unfold GV; simp)
   clear HST hbs hrl hty htn
   go_wp2_with (first
    | ((with_reducible refine qB ?_); refine qc ?_ ?_ <;> intro h_ <;> go_prune)
    | ((with_reducible refine qA 34 ?_); refine BigFrame.wpList_want rfl fun _ hK => Be (cs := [.bool zr, .int .u64 (zy : Nat), .int .u64 (zn : Nat), .int .i64 (t : Nat), .int .i64 zo]) rfl rfl (Ke c0 c1 c2 c3 c4) Tryz.underlying109 rfl (by kernel_rfl) (hK _ _ ?_))
    | ((with_reducible refine qA 5 ?_); refine qa hS #[.bool false, .int .u64 0, .int .u64 0, .int .i64 0, .int .i64 0] ?_; clear hS; intro g5 w_ hS)
    | ((with_reducible refine qM ?_); (first | refine qS hS ?_ | refine qT hS ?_); clear hS; intro w_ hS; (try simp only [Act.put, Act.eval, zz, Value.cells] at hS))
    | (go_at_call 164; refine (rflag02_any zr _).mono ?_; rintro r_ w2 ⟨v2, rfl, h2, hb2⟩; replace hS := hS.owned hb2 h2; clear h2 hb2)
    | ((with_reducible refine qk 50 ?_); refine EP hS 1 rfl _ _ rfl _ _ rfl _ _ rfl _ _ rfl rfl Tryz.underlying50 rfl (by kernel_rfl) ?_)
    | (go_at_call 165; refine (Ja zy zn HTY.out HTN.out _).mono ?_; rintro r_ w2 ⟨v2, rfl, h2, hb2⟩; replace hS := hS.owned hb2 h2; clear h2 hb2)
    | ((with_reducible refine qA 48 ?_); refine BigFrame.wpList_want rfl fun _ hK => Cd (vx := .int .i64 (t : Nat)) (v := .int .u64 (t : Nat)) rfl rfl (BS htT.out) (hK _ _ ?_))
    | (go_at_call 161; refine (DM t htT.out _).mono ?_; rintro r_ w2 ⟨v2, rfl, h2, hb2⟩; replace hS := hS.owned hb2 h2; clear h2 hb2)
    | ((with_reducible refine qA 39 ?_); refine Dp hS 2 rfl _ _ _ rfl Dc _ _ _ rfl rfl _ _ _ _ rfl (Sl.of_own (hS.own 0 rfl)) (B7 _) (by unfold maxLen; omega) (by omega) ?_; clear hS; intro v_ w_ hS; (try simp only [Act.put, Act.eval, zz, Value.cells] at hS); replace hS := (hS.sub (.cons _ (.refl _))).swap)
    | ((with_reducible refine qA 44 ?_); refine Dp hS 1 rfl _ _ _ rfl Dc _ _ _ rfl rfl _ _ _ _ rfl (Sl.of_own (hS.own 0 rfl)) (B7 _) (by unfold maxLen; omega) (by omega) ?_; clear hS; intro v_ w_ hS; (try simp only [Act.put, Act.eval, zz, Value.cells] at hS); replace hS := hS.sub (.cons _ (.refl _)))
    | ((with_reducible refine qA 50 ?_); refine Dp hS 1 rfl _ _ _ rfl Dc _ _ _ rfl rfl _ _ _ _ rfl (Sl.of_own (hS.own 0 rfl)) (B7 _) (by unfold maxLen; omega) (by omega) ?_; clear hS; intro v_ w_ hS; (try simp only [Act.put, Act.eval, zz, Value.cells] at hS); replace hS := hS.sub (.cons _ (.refl _)))
    | ((with_reducible refine qK ?_); refine qC hS ?_))
   refine ⟨⟨j + 1, v_, hlj, by go_num, rfl, ?_⟩, by simp [intOf]; omega⟩
   rw [HE.out]
   have h := hS.sub (F' := [_, _]) (.cons_cons _ (.cons _ (.refl _)))
   simpa [Ad, Nat.add_assoc] using h
  ·obtain rfl : p.rules.length = j := by omega
   rw [List.take_length] at hS hbl
   clear hrl
   obtain ⟨B1, hB1⟩ : ∃ x, x = B0 ++ Bu p.rules := ⟨_, rfl⟩
   rw [<- hB1] at hS HPB hbl
   clear hB1
   go_wp2_with (first
    | ((with_reducible refine qB ?_); refine qc ?_ ?_ <;> intro h_ <;> go_prune)
    | (go_at_call 166; first | ((with_reducible show Calls _ _ #[.slice An _ _] _ _); refine (HCN.out _ _ _ (kn _ _ hS.ro)).mono ?_; rintro r_ w2 ⟨v2, rfl, h2, hb2⟩; replace hS := hS.owned hb2 h2; clear h2 hb2) | (refine (HCG.out _ _ _ (kg _ _ hS.ro)).mono ?_; rintro r_ w2 ⟨v2, rfl, h2, hb2⟩; replace hS := hS.owned hb2 h2; clear h2 hb2))
    | ((with_reducible refine qA 56 ?_); refine Dp hS 1 rfl _ _ _ rfl Dc _ _ _ rfl rfl _ _ _ _ rfl (Sl.of_own (hS.own 0 rfl)) (B7 _) (by unfold maxLen; omega) (by omega) ?_; clear hS; intro v_ w_ hS; (try simp only [Act.put, Act.eval, zz, Value.cells] at hS); replace hS := hS.sub (.cons _ (.refl _)))
    | ((with_reducible refine qA 61 ?_); refine Dp hS 1 rfl _ _ _ rfl Dc _ _ _ rfl rfl _ _ _ _ rfl (Sl.of_own (hS.own 0 rfl)) (B7 _) (by unfold maxLen; omega) (by omega) ?_; clear hS; intro v_ w_ hS; (try simp only [Act.put, Act.eval, zz, Value.cells] at hS); replace hS := hS.sub (.cons _ (.refl _)))
    | ((with_reducible refine qK ?_); refine qC hS ?_))
   go_ret
   refine Aw.mk (I7 (hS.own 0 rfl) ?_) hS.below
   rw [HPB.out]
   simp [Ad]
set_option maxHeartbeats 2000000 in
theorem rpid_any {w0 : World} {D : Nat -> Prop} {v : Value} {p : AZ} {L : List (Nat × Nat)} (hp : Bj w0 D v p) (hR : RFit p L) :
  Calls Tryz.prog 41 #[v] w0 (Aw (fun x _ => x = .agg (Ad (pidC p)).toArray) w0) := by
 obtain ⟨cs, rfl, hsz, hone⟩ := hp.cells
 have HCk := Lib.hid (fun (w : World) (D' : Nat -> Prop) (v : Value) (h : Bj w D' v p) => rcheck31_any h hR)
 have HL32 := Lib.hid (FR p)
 have HID := Lib.hid (show pidC p = if checkE p = 0 then CQ (F6 Fb (Ds p)) else List.replicate 32 0 from rfl)
 have HSz := Lib.hid (show (Tryz.prog.info? 30).map (·.size) = some cs.size by rw [hsz]; kernel_rfl)
 have HBy : checkE p = 0 -> Hid (∀ (w : World) (D' : Nat -> Prop) (v : Value), Bj w D' v p -> Calls Tryz.prog 111 #[v] w (Aw (fun x w' => FA w' w.heap.size x (Ds p)) w)) := fun h0 => Lib.hid fun w D' v h => rpbytes_any h hR h0
 have hbl : checkE p = 0 -> (Ds p).length <= 6000000 := fun h0 => by
  obtain ⟨L', r, hL, hr, hr1, hr63, hl1, hl2, hl3, -, -⟩ := G2 h0
  obtain rfl : L = L' := by rw [hR.links] at hL; injection hL
  have h1 := DC L
  have h2 := AB L.length
  have h3 := Bh (BO hR.fits.start).1
  have h4 := EX p.never hR.fits.never
  have h5 := AB p.never.length
  have h6 := EX p.goal hR.fits.goal
  have h7 := AB p.goal.length
  have h8 := AB p.roles.toNat
  have h9 := AB (CB L).length
  have h10 := AB p.rules.length
  have h11 := F9 (l := p.rules) fun z hz => ⟨(BO (hR.fits.rules z hz).1).1, (BO (hR.fits.rules z hz).2).1⟩
  have h12 := hR.len
  unfold Ds H6 AU
  rw [hR.links]
  dsimp only
  unfold CB at h9 ⊢
  simp only [List.length_append] at h9 ⊢
  omega
 have HBb := Lib.hid (Jc p)
 obtain ⟨K, hkc, hS⟩ : ∃ K : (Nat -> Prop) -> World -> Prop, (∀ D w, K D w -> Bj w D (.agg cs) p) /\ St w0 w0 [] K := ⟨_, fun _ _ h => h, St.start D3 hp⟩
 have HK := Lib.hid hkc
 clear hp hkc hsz hone hR
 generalize Ds p = bs at *
 generalize checkE p = CK at *
 by_cases h0 : CK = 0
 ·subst h0
  rw [if_pos rfl] at HID
  replace HBy := HBy rfl
  replace hbl := hbl rfl
  obtain ⟨R, hR⟩ : ∃ R, R = pidC p := ⟨_, rfl⟩
  rw [<- hR] at HL32 HID ⊢
  have HTg := Lib.hid (fun (w : World) (D : Nat -> Prop) (pv p : Value) (h1 : Sl w D 1 pv 1 [p]) (h2 : Sl w D 1 p bs.length (Ad bs)) => by
   have := rtagged_any Fb (by decide) pv p bs HBb.out (by omega) w D h1 h2
   rw [<- HID.out] at this; exact this)
  have hi32 : (Tryz.prog.info? 86).map (·.size) = some (Ad R).toArray.size := by rw [List.size_toArray, Ae, HL32.out]; kernel_rfl
  have HON := Lib.hid (show (Ad R).toArray.all (·.oneCell') = true from all_oneCell_toArray (B7 _))
  have HI := Lib.hid hi32
  have HOL := Lib.hid (show (Ad (List.replicate 32 0)).toArray.size = (Ad R).toArray.size by simp [Ae, HL32.out])
  clear hR hi32
  go_enter Tryz.func41, Tryz.ntmps41
  go_wp2_with (first
   | ((with_reducible refine qA 1 ?_); refine AH hS rfl _ _ rfl (.agg cs) _ rfl rfl ?_; clear hS; intro g1 w_ hS; (try simp only [Act.put, Act.eval, zz, Value.cells] at hS))
   | ((with_reducible refine qA 2 ?_); refine Cp hS rfl _ rfl (by kernel_rfl) (Ad (List.replicate 32 0)).toArray (by kernel_rfl) ?_; clear hS; intro g2 w_ hS; (try simp only [Act.put, Act.eval, zz, Value.cells] at hS))
   | ((with_reducible refine qk 30 ?_); refine DU hS 1 rfl _ _ rfl g1 rfl _ cs rfl _ Tryz.underlying30 rfl HSz.out ?_)
   | (go_at_call 14; refine (HCk.out _ _ _ (HK.out _ _ hS.ro)).mono ?_; rintro r_ w2 ⟨_, rfl, rfl, hb2⟩; replace hS := hS.ext hb2; clear hb2)
   | ((with_reducible refine qB ?_); refine qc ?_ ?_ <;> intro h_ <;> go_prune)
   | (go_at_call 111; refine (HBy.out _ _ _ (HK.out _ _ hS.ro)).mono ?_; rintro r_ w2 ⟨v2, rfl, h2, hb2⟩; replace hS := (hS.owned hb2 h2).freeze 0 (by decide) rfl; obtain ⟨A2, c2, rfl, _, _⟩ := Sl.shape hS.ro.2; clear h2 hb2)
   | ((with_reducible show wpList _ _ _ (⟨_, .buildSlice _ 1 _, _, _, _, _⟩ :: _) _ _); refine Dg hS rfl _ 22 1 _ rfl Tryz.underlying166 #[.slice A2 bs.length c2] (by kernel_rfl) 1 rfl (by decide) ?_; clear hS; intro g w_ hS; replace hS := hS.freeze 0 (by decide) rfl)
   | (go_at_call 110; refine (HTg.out _ _ _ _ hS.ro.2 hS.ro.1.2).mono ?_; rintro r_ w2 ⟨v2, rfl, rfl, hb2⟩; replace hS := hS.ext hb2; clear hb2)
   | ((with_reducible refine qm 86 ?_); refine Cc hS 0 rfl _ _ _ rfl g2 (Ad R).toArray rfl rfl _ _ rfl HI.out HOL.out HON.out ?_; clear hS; intro w_ hS; (try simp only [Act.put, Act.eval, zz, Value.cells] at hS)))
  refine bodyPost_ret (v := .agg (Ad R).toArray) (by exact results_cell_row rfl _ _ g2 86 _ (0, 0) _ rfl (hS.box 0 rfl) Tryz.underlying86 rfl HI.out) rfl ?_
  exact Aw.mk rfl hS.below
 ·rw [if_neg h0] at HID
  rw [HID.out]
  have hi32 : (Tryz.prog.info? 86).map (·.size) = some (Ad (List.replicate 32 0)).toArray.size := by kernel_rfl
  go_enter Tryz.func41, Tryz.ntmps41
  go_wp2_with (first
   | ((with_reducible refine qA 1 ?_); refine AH hS rfl _ _ rfl (.agg cs) _ rfl rfl ?_; clear hS; intro g1 w_ hS; (try simp only [Act.put, Act.eval, zz, Value.cells] at hS))
   | ((with_reducible refine qA 2 ?_); refine Cp hS rfl _ rfl (by kernel_rfl) (Ad (List.replicate 32 0)).toArray (by kernel_rfl) ?_; clear hS; intro g2 w_ hS; (try simp only [Act.put, Act.eval, zz, Value.cells] at hS))
   | ((with_reducible refine qk 30 ?_); refine DU hS 1 rfl _ _ rfl g1 rfl _ cs rfl _ Tryz.underlying30 rfl HSz.out ?_)
   | (go_at_call 14; refine (HCk.out _ _ _ (HK.out _ _ hS.ro)).mono ?_; rintro r_ w2 ⟨_, rfl, rfl, hb2⟩; replace hS := hS.ext hb2; clear hb2)
   | ((with_reducible refine qB ?_); refine qc ?_ ?_ <;> intro h_ <;> go_prune)
   | ((with_reducible refine qm 86 ?_); refine Cc hS 0 rfl _ _ _ rfl g2 (Ad (List.replicate 32 0)).toArray rfl rfl _ _ rfl hi32 rfl (by kernel_rfl) ?_; clear hS; intro w_ hS; (try simp only [Act.put, Act.eval, zz, Value.cells] at hS)))
  refine bodyPost_ret (v := .agg (Ad (List.replicate 32 0)).toArray) (by exact results_cell_row rfl _ _ g2 86 _ (0, 0) _ rfl (hS.box 0 rfl) Tryz.underlying86 rfl hi32) rfl ?_
  exact Aw.mk rfl hS.below
end
section
open Go.RowKit
attribute [local go_sem ↓] Go.wp_at_zero Go.wp_at_succ
set_option maxRecDepth 20000
set_option exponentiation.threshold 5000
theorem Iz.rfit {p : AZ} {L : List (Nat × Nat)} {R : Nat} (h : Iz p L R) : RFit p L := ⟨h.links, h.hok, by have := h.len; omega, h.fits⟩
end
section
open Go.RowKit
attribute [local go_sem ↓] Go.wp_at_zero Go.wp_at_succ
set_option maxRecDepth 20000
set_option exponentiation.threshold 5000
theorem rngT {w : World} {g i k : Nat} {a b c : Value} (h0 : w.cell? ⟨g, i + k, none⟩ = some a) (h1 : w.cell? ⟨g, i + (k + 1), none⟩ = some b) (h2 : w.cell? ⟨g, i + (k + 2), none⟩ = some c) : w.rangeAt g (i + k) [a, b, c] := fun j v hj => by
 match j, hj with
 | 0, hj => obtain rfl := Option.some.inj (show some _ = some v from hj); exact h0
 | 1, hj => obtain rfl := Option.some.inj (show some _ = some v from hj); exact h1
 | 2, hj => obtain rfl := Option.some.inj (show some _ = some v from hj); exact h2
def Ih (l : List Hc) : List (Nat × Nat) := (l.take 8).map fit
set_option maxHeartbeats 4000000 in
theorem rlist_any {w0 w : World} {F : List A7} {K : (Nat -> Prop) -> World -> Prop} {v : Value} {l : List Hc} (hok : ∀ c ∈ l, c.ok) (hl : l.length <= 9223372036854775807) (hS : St w0 w F K) (kp : ∀ D w, K D w -> Sl w D 3 v l.length (Bv l)) :
  Calls Tryz.prog 42 #[v] w fun e w' => ∃ u, e = .returned u /\ St w0 w' (.own u 50 2 (Ih l).length (AC (Ih l)) :: F) K := by
 obtain ⟨A, c, rfl, _, _⟩ := (kp _ _ hS.ro).shape
 have HP := Lib.hid kp
 have HO := Lib.hid hok
 clear kp hok
 go_enter Tryz.func42, Tryz.ntmps42
 replace hS := hS.nil 50 2
 go_wp2_with fail
 go_loopw [3, 8] (fun kw iv wr => ∃ (j : Nat) (kv : Value), iv = .int .i64 (j : Nat) /\ kv = kw /\ j <= l.length /\ j <= 8 /\ St w0 wr (.own kv 50 2 ((l.take j).map fit).length (AC ((l.take j).map fit)) :: F) K) (fun _ i _ => 8 - (intOf i).toNat)
 case atStart => exact ⟨0, _, rfl, rfl, by omega, by omega, by simpa [AC] using hS⟩
 case round =>
  clear hS
  obtain ⟨j, kv, rfl, rfl, hj, hj8, hS⟩ := hrel
  by_cases hjl : j < l.length
  ·obtain ⟨b, o, rfl⟩ := sl_pos (HP.out _ _ hS.ro) (by omega)
   obtain ⟨z, hz, q0, q1, q2⟩ := rawCells_at l j hjl
   have Q0 := Lib.hid q0
   have Q1 := Lib.hid q1
   have Q2 := Lib.hid q2
   have HZ := Lib.hid hz
   have hzok := HO.out _ (List.mem_of_getElem? hz)
   clear q0 q1 q2 hz
   obtain ⟨za, zb, zo⟩ := z
   dsimp only at Q0 Q1 Q2
   by_cases h8 : j = 8
   ·subst h8
    go_wp2_with (first
     | ((with_reducible refine qB ?_); refine qc ?_ ?_ <;> intro h_ <;> go_prune)
     | ((with_reducible refine qA 12 ?_); refine BigFrame.wpList_want rfl fun _ hK => Be (cs := [.int .u8 (za : Nat), .int .u8 (zb : Nat), .bool zo]) rfl rfl (rngT (Gc (HP.out _ _ hS.ro) Q0.out) (Gc (HP.out _ _ hS.ro) Q1.out) (Gc (HP.out _ _ hS.ro) Q2.out)) Tryz.underlying168 rfl (by kernel_rfl) (hK _ _ ?_))
     | ((with_reducible refine qA 5 ?_); refine qa hS #[.int .u8 0, .int .u8 0, .bool false] ?_; clear hS; intro g5 w_ hS)
     | ((with_reducible refine qM ?_); (first | refine qS hS ?_ | refine qT hS ?_); clear hS; intro w_ hS; (try simp only [Act.put, Act.eval, zz, Value.cells] at hS)))
    go_ret
    exact ⟨_, rfl, hS.sub (List.sublist_cons_self _ _)⟩
   ·have hlen : ((l.take j).map fit).length = j := by rw [List.length_map, List.length_take]; omega
    generalize hT : (l.take j).map fit = T at *
    have HT := Lib.hid hT
    clear hT
    go_wp2_with (first
     | ((with_reducible refine qB ?_); refine qc ?_ ?_ <;> intro h_ <;> go_prune)
     | ((with_reducible refine qA 12 ?_); refine BigFrame.wpList_want rfl fun _ hK => Be (cs := [.int .u8 (za : Nat), .int .u8 (zb : Nat), .bool zo]) rfl rfl (rngT (Gc (HP.out _ _ hS.ro) Q0.out) (Gc (HP.out _ _ hS.ro) Q1.out) (Gc (HP.out _ _ hS.ro) Q2.out)) Tryz.underlying168 rfl (by kernel_rfl) (hK _ _ ?_))
     | ((with_reducible refine qA 5 ?_); refine qa hS #[.int .u8 0, .int .u8 0, .bool false] ?_; clear hS; intro g5 w_ hS)
     | ((with_reducible refine qM ?_); (first | refine qS hS ?_ | refine qT hS ?_); clear hS; intro w_ hS; (try simp only [Act.put, Act.eval, zz, Value.cells] at hS))
     | ((with_reducible refine qK ?_); refine qL hS Tryz.underlying168 ?_)
     | (go_at_call 112; refine (fit_any ⟨za, zb, zo⟩ hzok _).mono ?_; rintro r_ w_ ⟨_, rfl, rfl, hb_⟩; replace hS := hS.ext hb_; clear hb_; obtain ⟨⟨fy, fn⟩, hf⟩ : ∃ f, fit ⟨za, zb, zo⟩ = f := ⟨_, rfl⟩; rw [hf]; have HF := Lib.hid hf; clear hf; unfold Jb; dsimp only)
     | ((with_reducible refine qA 18 ?_); refine Do hS 1 rfl rfl _ _ _ _ rfl rfl IG kv T.length (AC T) (.agg #[.int .u64 (fy : Nat), .int .u64 (fn : Nat)]) #[.int .u64 (fy : Nat), .int .u64 (fn : Nat)] rfl (by kernel_rfl) rfl rfl rfl rfl (by intro u hu; simp at hu; rcases hu with rfl | rfl <;> rfl) (by omega) (by omega) ?_; clear hS; intro z_ kv' w_ hS; (try simp only [Act.put, Act.eval, zz, Value.cells] at hS)))
    refine ⟨⟨j + 1, _, by go_num, rfl, hjl, by omega, ?_⟩, by simp [intOf]; omega⟩
    rw [show (l.take (j + 1)).map fit = T ++ [(fy, fn)] by rw [List.take_add_one, HZ.out, List.map_append, HT.out, <- HF.out]; rfl, List.length_append, FO]
    exact hS.sub (List.sublist_cons_self _ _)
  ·obtain rfl : j = l.length := by omega
   have HL : Hid (Ih l = (l.take l.length).map fit) := Lib.hid (by unfold Ih; rw [List.take_length, List.take_of_length_le (by omega)])
   rw [<- HL.out] at hS
   go_wp2_with (first | ((with_reducible refine qB ?_); refine qc ?_ ?_ <;> intro h_ <;> go_prune))
   go_ret
   exact ⟨_, rfl, hS⟩
end
section
open Go.RowKit
attribute [local go_sem ↓] Go.wp_at_zero Go.wp_at_succ
set_option maxRecDepth 20000
set_option exponentiation.threshold 5000
def MkAO (w0 : World) (F : List A7) (K : (Nat -> Prop) -> World -> Prop) (l : List (Nat × Nat)) (e : Ending) (w' : World) : Prop :=
 ∃ (u : Value) (ys : List Value), e = .returned u /\ St w0 w' (.own u 56 2 l.length ys :: F) fun D w => K D w /\ Aq w D ys l
theorem makeall_own {w0 w : World} {F : List A7} {K : (Nat -> Prop) -> World -> Prop} {v : Value} {l : List (Nat × Nat)} (hs : Small l) (hl : l.length <= 1000000) (hS : St w0 w F K) (kp : ∀ D w, K D w -> Sl w D 2 v l.length (AC l)) :
  Calls Tryz.prog 43 #[v] w (MkAO w0 F K l) := by
 obtain ⟨A, c, rfl, _, _⟩ := (kp _ _ hS.ro).shape
 have KS := Lib.hid hS.stable
 have HSM := Lib.hid hs
 clear hs
 go_enter Tryz.func43, Tryz.ntmps43
 go_wp2_with fail
 replace hS := hS.nil 56 2
 go_loopw [3, 8] (fun ov i wr => ∃ (j : Nat) (sv : Value) (xs : List Value), i = .int .i64 (j : Nat) /\ sv = ov /\ j <= l.length /\ St w0 wr (.own sv 56 2 j xs :: F) fun D w => K D w /\ Aq w D xs (l.take j)) (fun _ i _ => l.length - (intOf i).toNat)
 case atStart => exact ⟨0, _, [], rfl, rfl, by omega, hS.mono (KS.out.and DZ) fun D w h => ⟨h, Aq.nil⟩⟩
 case round =>
  clear hS
  obtain ⟨j, sv, xs, rfl, rfl, hj, hS⟩ := hrel
  by_cases hlj : j < l.length
  ·obtain ⟨f1, f2⟩ := Dz l j hlj
   have hz := HSM.out (l.getD j (0, 0)) (by rw [List.getD_eq_getElem?_getD, List.getElem?_eq_getElem hlj]; exact List.getElem_mem hlj)
   have HT : Hid (l.take (j + 1) = l.take j ++ [l.getD j (0, 0)]) := Lib.hid (by rw [List.take_succ_eq_append_getElem hlj, List.getD_eq_getElem?_getD, List.getElem?_eq_getElem hlj]; rfl)
   have HLT : Hid ((l.take j).length = j) := Lib.hid (by rw [List.length_take]; omega)
   generalize l.getD j (0, 0) = z at *
   obtain ⟨y, n⟩ := z
   dsimp only at f1 f2 hz
   have kp2 : ∀ D w, (K D w /\ Aq w D xs (l.take j)) -> Sl w D 2 (.slice A l.length c) l.length (AC l) := fun D w h => kp D w h.1
   have hj1 : j <= 1000000 := by omega
   go_wp2_with (first
    | ((with_reducible refine qB ?_); refine qc ?_ ?_ <;> intro h_ <;> go_prune)
    | ((with_reducible refine qI ?_); refine qj hS Tryz.underlying28 ?_; intro b_ j_ hc0_ hc1_)
    | ((with_reducible refine qA 5 ?_); refine AY hS rfl _ rfl (by kernel_rfl) ?_; clear hS; intro g5 w_ hS; (try simp only [Act.put, Act.eval, zz, Value.cells] at hS))
    | ((with_reducible refine qM ?_); (first | refine qS hS ?_ | refine qT hS ?_); clear hS; intro w_ hS; (try simp only [Act.put, Act.eval, zz, Value.cells] at hS))
    | ((with_reducible refine qK ?_); refine qL hS Tryz.underlying50 ?_)
    | (go_at_call 20; refine (IV y n hz.1 hz.2 _).mono ?_; rintro e w_ ⟨x, rfl, hx, hb_⟩; replace hS := hS.ret hb_ CW hx; obtain ⟨a, b, rfl, ha, hb⟩ := hx; obtain ⟨Aa, na, ca, rfl⟩ := ha.shape; obtain ⟨Ab, nb, cb, rfl⟩ := hb.shape; clear ha hb hb_)
    | ((with_reducible show wpList _ _ _ (⟨_, .buildSlice _ 1 _, _, _, _, _⟩ :: _) _ _); refine Do hS 1 rfl rfl _ _ _ _ rfl rfl EK _ _ _ (.agg #[.slice Aa na ca, .slice Ab nb cb]) #[.slice Aa na ca, .slice Ab nb cb] rfl (by kernel_rfl) rfl rfl rfl rfl (by intro u hu; simp at hu; first | (subst hu; rfl) | (rcases hu with rfl | rfl <;> rfl)) (by omega) (by omega) ?_; clear hS; intro z_ v_ w_ hS; (try simp only [Act.put, Act.eval, zz, Value.cells] at hS)))
   have hcl := (hS.own 1 rfl).1
   refine ⟨⟨j + 1, _, xs ++ [.slice Aa na ca, .slice Ab nb cb], by go_num, rfl, hlj, ?_⟩, by simp [intOf]; omega⟩
   rw [HT.out]
   exact (hS.sub (F' := _ :: F) (List.sublist_cons_self _ _)).mono (KS.out.and DZ) fun D w h => ⟨h.1.1, h.1.2.push (by rw [HLT.out]; simp at hcl; omega) (Gn h.2).1 (Gn h.2).2⟩
  ·obtain rfl : l.length = j := by omega
   rw [List.take_length] at hS
   go_wp2_with (first | ((with_reducible refine qB ?_); refine qc ?_ ?_ <;> intro h_ <;> go_prune))
   go_ret
   exact ⟨_, _, rfl, hS⟩
theorem rcert_plan (q : List Nat) (A : Option Addr) (n c : Nat) (h : q.length = 32) : Tryz.prog.built 101 [(0, .agg (Ad q).toArray), (1, .bool true), (2, .slice A n c)] = some (cc q true (.slice A n c) (.slice none 0 0)) := by
 match q, h with
 | [a0, a1, a2, a3, a4, a5, a6, a7, a8, a9, a10, a11, a12, a13, a14, a15, a16, a17, a18, a19, a20, a21, a22, a23, a24, a25, a26, a27, a28, a29, a30, a31], _ =>
  show _ = _
  kernel_rfl
theorem rcert_cubes (q : List Nat) (A : Option Addr) (n c : Nat) (h : q.length = 32) : Tryz.prog.built 101 [(0, .agg (Ad q).toArray), (3, .slice A n c)] = some (cc q false (.slice none 0 0) (.slice A n c)) := by
 match q, h with
 | [a0, a1, a2, a3, a4, a5, a6, a7, a8, a9, a10, a11, a12, a13, a14, a15, a16, a17, a18, a19, a20, a21, a22, a23, a24, a25, a26, a27, a28, a29, a30, a31], _ =>
  show _ = _
  kernel_rfl
theorem listC_len (m : List Hc) : (Ih m).length <= 8 := by unfold Ih; rw [List.length_map, List.length_take]; omega
theorem listC_small {m : List Hc} (h : ∀ c ∈ m, c.ok) : Small (Ih m) := fun z hz => by
 unfold Ih at hz
 obtain ⟨c, hc, rfl⟩ := List.mem_map.1 hz
 have := fit_small (h c (List.mem_of_mem_take hc))
 unfold AE
 omega
set_option maxHeartbeats 4000000 in
theorem lmakes_any (v u t : Value) (l : List Nat) (pl : List Int) (m : List Hc) (W : World) (D E G : Nat -> Prop) (hl : ∀ x ∈ l, x < 256) (hm : ∀ c ∈ m, c.ok) (hv : Sl W D 1 v l.length (Ad l)) (hu : Sl W E 1 u pl.length (AM pl)) (ht : Sl W G 3 t m.length (Bv m)) (hT : BD W) (hTB : Gx W) : Calls Tryz.prog 10 #[v, u, t] W (Aw (fun x _ => x = .bool true) W) := by
 obtain ⟨K, kt, k1, k2, k3, hS⟩ : ∃ K : (Nat -> Prop) -> World -> Prop, (∀ D w, K D w -> BD w /\ D 0) /\ (∀ D w, K D w -> Sl w D 1 v l.length (Ad l)) /\ (∀ D w, K D w -> Sl w D 1 u pl.length (AM pl)) /\ (∀ D w, K D w -> Sl w D 3 t m.length (Bv m)) /\ St W W [] K :=
  ⟨fun D w => (BD w /\ D 0) /\ Sl w D 1 v l.length (Ad l) /\ Sl w D 1 u pl.length (AM pl) /\ Sl w D 3 t m.length (Bv m), fun _ _ h => h.1, fun _ _ h => h.2.1, fun _ _ h => h.2.2.1, fun _ _ h => h.2.2.2, St.start (D := fun _ => True) (Ct.and ((Aj (by decide)).and ((Aj (by decide)).and (Aj (by decide))))) ⟨⟨hT, trivial⟩, hv.imp fun _ _ _ => trivial, hu.imp fun _ _ _ => trivial, ht.imp fun _ _ _ => trivial⟩⟩
 obtain ⟨A1, c1, rfl, hc1, hc1'⟩ := hu.shape
 have hml : m.length <= 9223372036854775807 := by obtain ⟨A2, c2, rfl, h1, h2⟩ := ht.shape; omega
 clear hv hu ht
 have HL := Lib.hid hl
 have HMO := Lib.hid hm
 have HDT := Lib.hid hT
 have HTB := Lib.hid hTB
 clear hl hT hTB hm
 go_enter Tryz.func10, Tryz.ntmps10
 go_upto_region 7 with (first
  | (go_at_call 39; refine (awake_any _ (HTB.out.ext hS.below)).mono ?_; rintro e w3 ⟨_, rfl, rfl, hb3⟩; replace hS := hS.ext hb3; clear hb3)
  | (go_at_call 18; refine (lmake31_any HL.out hS k1 kt).mono ?_; clear hS; rintro e w_ ⟨x, u, rfl, p, ⟨L, R, hM⟩, hS⟩; replace hM := Lib.hid hM; obtain ⟨xs, rfl, hx6, hx1⟩ := hS.ro.2.1.cells; replace hx6 := Lib.hid hx6; obtain ⟨us, rfl, hu6, hu1⟩ := hS.ro.2.2.cells; replace hu6 := Lib.hid hu6)
  | ((with_reducible refine qA 7 ?_); refine qa hS #[.int .i64 0, .pointer none, .slice none 0 0, .slice none 0 0, .slice none 0 0, .slice none 0 0] ?_; clear hS; intro g7 w_ hS)
  | ((with_reducible refine qA 8 ?_); refine qa hS #[.int .i64 0, .slice none 0 0, .int .u64 0, .slice none 0 0, .slice none 0 0, .slice none 0 0] ?_; clear hS; intro g8 w_ hS)
  | ((with_reducible refine qm 30 ?_); refine Cc hS 0 rfl _ _ _ rfl _ _ rfl rfl _ _ rfl (by rw [hu6.out]; kernel_rfl) (by rw [hu6.out]; rfl) hu1 ?_; clear hS; intro w_ hS; (try simp only [Act.put, Act.eval, zz, Value.cells] at hS))
  | ((with_reducible refine qm 43 ?_); refine Cc hS 1 rfl _ _ _ rfl _ _ rfl rfl _ _ rfl (by rw [hx6.out]; kernel_rfl) (by rw [hx6.out]; rfl) hx1 ?_; clear hS; intro w_ hS; (try simp only [Act.put, Act.eval, zz, Value.cells] at hS))
  | ((with_reducible refine qA 31 ?_); refine BigFrame.wpList_want rfl fun _ hK => opw_min (m := 12) rfl rfl rfl (hK _ _ ?_))
  | ((with_reducible refine qA 32 ?_); refine BigFrame.wpList_want rfl fun _ hK => JJ (k := min pl.length 12) rfl Tryz.underlying74 ⟨1, by kernel_rfl⟩ rfl rfl (by omega) (hK _ _ ?_)))
 obtain ⟨qs, hqs⟩ : ∃ qs, pl.take 12 = qs := ⟨_, rfl⟩
 obtain ⟨n1, hn1⟩ : ∃ n, min pl.length 12 = n := ⟨_, rfl⟩
 have hq1 : qs.length = n1 := by rw [<- hqs, List.length_take, <- hn1]; omega
 have hn12 : n1 <= 12 := by omega
 obtain ⟨K2, kp, kr, kq, kraw, hS2⟩ : ∃ K2 : (Nat -> Prop) -> World -> Prop, (∀ D w, K2 D w -> Bo w D (.agg xs) p) /\ (∀ D w, K2 D w -> Bj w D (.agg us) p) /\ (∀ D w, K2 D w -> Sl w D 1 (.slice A1 n1 c1) n1 (AM qs)) /\ (∀ D w, K2 D w -> Sl w D 3 t m.length (Bv m)) /\ St W w_ [.box g8 30 us, .box g7 43 xs] K2 := ⟨_, fun _ _ h => h.2.1, fun _ _ h => h.2.2, fun D w h => by have h2 := (k2 _ _ h.1).take (k := min pl.length 12) (by omega); rw [ints_take, show pl.take (min pl.length 12) = qs by rw [<- hqs, Nat.min_comm, <- List.take_eq_take_min]] at h2; rw [<- hn1]; exact h2, fun _ _ h => k3 _ _ h.1, hS⟩
 rw [hn1]
 clear hS hqs hn1
 have hS := hS2
 clear hS2
 obtain ⟨cu, hcu⟩ : ∃ cu, Ih m = cu := ⟨_, rfl⟩
 have hc8 := listC_len m
 have HSM : Hid (Small cu) := Lib.hid (by rw [<- hcu]; exact listC_small HMO.out)
 have HLI : Hid (∀ (w : World) (F : List A7) (K : (Nat -> Prop) -> World -> Prop), St W w F K -> (∀ D w, K D w -> Sl w D 3 t m.length (Bv m)) -> Calls Tryz.prog 42 #[t] w fun e w' => ∃ u, e = .returned u /\ St W w' (.own u 50 2 cu.length (AC cu) :: F) K) := Lib.hid fun w F K h1 h2 => by rw [<- hcu]; exact rlist_any HMO.out hml h1 h2
 rw [hcu] at hc8
 clear hcu
 obtain ⟨n2, hn2⟩ : ∃ n, cu.length = n := ⟨_, rfl⟩
 have HN2 := Lib.hid hn2
 have HMA : Hid (∀ (w : World) (F : List A7) (K : (Nat -> Prop) -> World -> Prop) (v : Value), St W w F K -> (∀ D w, K D w -> Sl w D 2 v n2 (AC cu)) -> Calls Tryz.prog 43 #[v] w fun e w' => ∃ (u : Value) (ys : List Value), e = .returned u /\ St W w' (.own u 56 2 n2 ys :: F) fun D w => K D w /\ Aq w D ys cu) := Lib.hid fun w F K v h1 h2 => by rw [<- hn2] at h2 ⊢; exact makeall_own HSM.out (by omega) h1 h2
 rw [hn2] at HLI hc8
 clear hn2
 have HIO := Lib.hid (ints_one qs)
 go_upto_region 9 with (first
  | (go_at_call 42; refine (HLI.out _ _ _ hS kraw).mono ?_; clear hS; rintro e w_ ⟨u10, rfl, hS⟩; replace hS := hS.freeze 0 (by decide) rfl; obtain ⟨A10, c10, rfl, _, _⟩ := Sl.shape hS.ro.2)
  | ((with_reducible show wpList _ _ _ (⟨_, .buildSlice _ 0 _, _, _, _, _⟩ :: _) _ _); refine EO hS rfl _ _ rfl Tryz.underlying74 (by kernel_rfl) 1 ?_; clear hS; intro ge w_ hS)
  | ((with_reducible refine qA 37 ?_); refine Hp hS 0 rfl _ _ _ rfl Er _ rfl rfl _ _ _ _ rfl (kq _ _ hS.ro.1) HIO.out (by omega) (by omega) ?_; clear hS; intro g11 c11 w_ hS; (try simp only [Act.put, Act.eval, zz, Value.cells] at hS))
  | (go_at_call 43; refine (HMA.out _ _ _ _ hS fun D w h => h.2).mono ?_; clear hS; rintro e w_ ⟨u12, ys, rfl, hS⟩; obtain ⟨A12, c12, rfl, _, _⟩ := C7 (hS.own 0 rfl)))
 obtain ⟨q, hq⟩ : ∃ q, pidC p = q := ⟨_, rfl⟩
 have H32 : Hid (q.length = 32) := Lib.hid (by rw [<- hq]; exact FR p)
 have HBY : Hid (AK q) := Lib.hid (by rw [<- hq]; exact Kk p)
 have HRE : Hid (∀ (w : World) (D E : Nat -> Prop) (pv : Value), Bo w D (.agg xs) p -> BD w -> Gx w -> Sl w E 1 pv n1 (AM qs) -> Calls Tryz.prog 44 #[.agg xs, pv] w (Aw (fun x w' => Ba w' (w.heap.size <= ·) x ⟨q, true, qs, []⟩) w)) := Lib.hid fun w D E pv h1 h2 h3 h4 => by rw [<- hq]; rw [<- hq1] at h4; exact creached_any h1 hM.out.ok h2 h3 h4 (by omega)
 have HCL : Hid (∀ (w : World) (D E : Nat -> Prop) (pv : Value), Bo w D (.agg xs) p -> BD w -> Gx w -> Sl w E 2 pv n2 ys -> (∀ u ∈ ys, u.oneCell' = true) -> Calls Tryz.prog 45 #[.agg xs, pv] w (Aw (fun x w' => ∃ A c, x = .agg (cc q false (.slice none 0 0) (.slice A n2 c)) /\ Sl w' (w.heap.size <= ·) 2 (.slice A n2 c) n2 ys) w)) := Lib.hid fun w D E pv h1 h2 h3 h4 h5 => by
  have h6 : n2 = cu.length := HN2.out.symm
  subst h6
  rw [<- hq]; exact cclosed_any h1 hM.out.ok h2 h3 h4 h5 (by omega)
 have HRP : Hid (∀ (w : World) (D : Nat -> Prop), Bj w D (.agg us) p -> Calls Tryz.prog 41 #[.agg us] w (Aw (fun x _ => x = .agg (Ad q).toArray) w)) := Lib.hid fun w D h1 => by rw [<- hq]; exact rpid_any h1 hM.out.rfit
 clear hq
 simp only [List.eraseIdx_zero, List.tail_cons] at hS
 obtain ⟨K3, k32, kru, kcc, hS2⟩ : ∃ K3 : (Nat -> Prop) -> World -> Prop, (∀ D w, K3 D w -> K2 D w) /\ (∀ D w, K3 D w -> Sl w D 2 (.slice A10 n2 c10) n2 (AC cu)) /\ (∀ D w, K3 D w -> Aq w D ys cu) /\ St W w_ (.own (.slice A12 n2 c12) 56 2 n2 ys :: .own (.slice (some ⟨g11, 0, none⟩) n1 c11) 3 1 n1 (AM qs) :: .box g8 30 us :: .box g7 43 xs :: []) K3 := ⟨_, fun _ _ h => h.1.1, fun _ _ h => h.1.2, fun _ _ h => h.2, hS⟩
 clear hS
 have hS := hS2
 clear hS2
 have HYO : Hid (∀ u ∈ ys, u.oneCell' = true) := Lib.hid ((kcc _ _ hS.ro).one (by have := (hS.own 0 rfl).1; rw [HN2.out]; exact this))
 refine Fv (fun i__ lo hi v w => match i__ with
  | 0 => v = .agg xs
  | 1 => v = .slice (some ⟨g11, 0, none⟩) n1 c11
  | 2 => Ba w (fun b => lo <= b /\ b < hi) v ⟨q, true, qs, []⟩
  | 3 => v = .agg xs
  | 4 => v = .slice A12 n2 c12
  | 5 => ∃ A c, v = .agg (cc q false (.slice none 0 0) (.slice A n2 c)) /\ Sl w (fun b => lo <= b /\ b < hi) 2 (.slice A n2 c) n2 ys
  | 6 => ∃ g, v = .pointer (some ⟨g, 0, none⟩) /\ AX w g 96 (zeroCells Tryz.prog 96) /\ lo <= g /\ g < hi
  | 7 => ∃ g, v = .pointer (some ⟨g, 0, none⟩) /\ AX w g 96 (zeroCells Tryz.prog 96) /\ lo <= g /\ g < hi
  | 8 => True
  | 9 => True
  | _ => True) 8 [9] (by kernel_rfl) (by kernel_rfl) (by kernel_rfl) (by kernel_rfl) (by kernel_rfl) ?mono ⟨.inr ?r0, .inr ?r1, .inr ?r2, .inr ?r3, .inr ?r4, .inr ?r5, .inr ?r6, .inr ?r7, .inl (by decide), .inl (by decide), trivial⟩ ?post
 case mono =>
  intro i lo hi v w w' h hb
  match i, h with
  | 0, h | 1, h => exact h
  | 2, h => exact Ba.ext h hb
  | 3, h | 4, h => exact h
  | 5, h => exact (let ⟨A, c, h1, h2⟩ := h; ⟨A, c, h1, h2.ext hb⟩)
  | 6, h => exact by obtain ⟨g, e, hb2, h1⟩ := h; exact ⟨g, e, hb2.ext hb, h1⟩
  | 7, h => exact by obtain ⟨g, e, hb2, h1⟩ := h; exact ⟨g, e, hb2.ext hb, h1⟩
  | 8, h | 9, h => exact h
  | _ + 10, h => trivial
 case r0 =>
  refine Dm fun b__ w hW hold hpre => wU rfl fun K hK => ?_
  have e7 : b__.eval (.tmp 7) = .pointer (some ⟨g7, 0, none⟩) := (hold 7 (by kernel_rfl)).trans rfl
  exact CL rfl e7 ((hS.ext (B3 hW)).box 3 rfl) Tryz.underlying43 rfl (by rw [hx6.out]; kernel_rfl) (hK _ _ rfl (Below.refl _ _))
 case r1 =>
  refine Dm fun b__ w hW hold hpre => wU rfl fun K hK => ?_
  have e11 : b__.eval (.tmp 11) = .slice (some ⟨g11, 0, none⟩) n1 c11 := (hold 11 (by kernel_rfl)).trans rfl
  exact Bw rfl e11 (hK _ _ rfl (Below.refl _ _))
 case r2 =>
  refine Dm fun b__ w hW hold hpre => wU rfl fun K hK => ?_
  have e40 : b__.eval (.tmp 40) = .agg xs := by obtain ⟨_, _, h⟩ := hpre ⟨0, _⟩ (Array.mem_of_getElem? (i := 0) rfl) rfl _ _ rfl rfl; exact h
  have e41 : b__.eval (.tmp 41) = .slice (some ⟨g11, 0, none⟩) n1 c11 := by obtain ⟨_, _, h⟩ := hpre ⟨1, _⟩ (Array.mem_of_getElem? (i := 1) rfl) rfl _ _ rfl rfl; exact h
  exact AL rfl (by kernel_rfl) (by simp [e40, e41]) (HRE.out _ _ _ _ (kp _ _ (k32 _ _ (hS.ext (B3 hW)).ro)) (HDT.out.ext (hS.ext (B3 hW)).below) (HTB.out.ext (hS.ext (B3 hW)).below) (Sl.of_own ((hS.ext (B3 hW)).own 1 rfl))) fun v w' h hb => hK v w' (h.imp fun b h1 h2 => ⟨h1, h2⟩) hb
 case r3 =>
  refine Dm fun b__ w hW hold hpre => wU rfl fun K hK => ?_
  have e7 : b__.eval (.tmp 7) = .pointer (some ⟨g7, 0, none⟩) := (hold 7 (by kernel_rfl)).trans rfl
  exact CL rfl e7 ((hS.ext (B3 hW)).box 3 rfl) Tryz.underlying43 rfl (by rw [hx6.out]; kernel_rfl) (hK _ _ rfl (Below.refl _ _))
 case r4 =>
  refine Dm fun b__ w hW hold hpre => wU rfl fun K hK => ?_
  have e12 : b__.eval (.tmp 12) = .slice A12 n2 c12 := (hold 12 (by kernel_rfl)).trans rfl
  exact Bw rfl e12 (hK _ _ rfl (Below.refl _ _))
 case r5 =>
  refine Dm fun b__ w hW hold hpre => wU rfl fun K hK => ?_
  have e43 : b__.eval (.tmp 43) = .agg xs := by obtain ⟨_, _, h⟩ := hpre ⟨3, _⟩ (Array.mem_of_getElem? (i := 0) rfl) rfl _ _ rfl rfl; exact h
  have e44 : b__.eval (.tmp 44) = .slice A12 n2 c12 := by obtain ⟨_, _, h⟩ := hpre ⟨4, _⟩ (Array.mem_of_getElem? (i := 1) rfl) rfl _ _ rfl rfl; exact h
  exact AL rfl (by kernel_rfl) (by simp [e43, e44]) (HCL.out _ _ _ _ (kp _ _ (k32 _ _ (hS.ext (B3 hW)).ro)) (HDT.out.ext (hS.ext (B3 hW)).below) (HTB.out.ext (hS.ext (B3 hW)).below) (Sl.of_own ((hS.ext (B3 hW)).own 0 rfl)) HYO.out) fun v w' ⟨A, c, h1, h2⟩ hb => hK v w' ⟨A, c, h1, h2.imp fun b h3 h4 => ⟨h3, h4⟩⟩ hb
 case r6 =>
  refine Dm fun b__ w hW hold hpre => ⟨fun hwant K hK => IQ rfl (by kernel_rfl) fun w' hb hbel => hK _ _ ⟨_, rfl, hb, Nat.le_refl _, hb.lt⟩ hbel, fun hwant => ?_⟩
  exact wo hwant
 case r7 =>
  refine Dm fun b__ w hW hold hpre => ⟨fun hwant K hK => IQ rfl (by kernel_rfl) fun w' hb hbel => hK _ _ ⟨_, rfl, hb, Nat.le_refl _, hb.lt⟩ hbel, fun hwant => ?_⟩
  exact wo hwant
 case post =>
  intro b__ wz lo hi hW hdf hsz hold hT hap hlim
  have e13 : (fun (v : Value) (w : World) => ∃ g, v = .pointer (some ⟨g, 0, none⟩) /\ AX w g 96 (zeroCells Tryz.prog 96) /\ (lo 6) <= g /\ g < (hi 6)) (b__.eval (.tmp 13)) wz := hT 6 _ 13 (by decide) rfl rfl
  have e42 : (fun (v : Value) (w : World) => Ba w (fun b => (lo 2) <= b /\ b < (hi 2)) v ⟨q, true, qs, []⟩) (b__.eval (.tmp 42)) wz := hT 2 _ 42 (by decide) rfl rfl
  have e14 : (fun (v : Value) (w : World) => ∃ g, v = .pointer (some ⟨g, 0, none⟩) /\ AX w g 96 (zeroCells Tryz.prog 96) /\ (lo 7) <= g /\ g < (hi 7)) (b__.eval (.tmp 14)) wz := hT 7 _ 14 (by decide) rfl rfl
  have e45 : (fun (v : Value) (w : World) => ∃ A c, v = .agg (cc q false (.slice none 0 0) (.slice A n2 c)) /\ Sl w (fun b => (lo 5) <= b /\ b < (hi 5)) 2 (.slice A n2 c) n2 ys) (b__.eval (.tmp 45)) wz := hT 5 _ 45 (by decide) rfl rfl
  obtain ⟨vs, hvs, hb⟩ := Ej hdf hsz hold
  replace e13 := (hvs 13) ▸ e13
  replace e42 := (hvs 42) ▸ e42
  replace e14 := (hvs 14) ▸ e14
  replace e45 := (hvs 45) ▸ e45
  have e40 : vs 40 = .agg xs := (hvs 40).symm.trans (hT 0 _ 40 (by decide) rfl rfl)
  have e41 : vs 41 = .slice (some ⟨g11, 0, none⟩) n1 c11 := (hvs 41).symm.trans (hT 1 _ 41 (by decide) rfl rfl)
  have e43 : vs 43 = .agg xs := (hvs 43).symm.trans (hT 3 _ 43 (by decide) rfl rfl)
  have e44 : vs 44 = .slice A12 n2 c12 := (hvs 44).symm.trans (hT 4 _ 44 (by decide) rfl rfl)
  subst hb
  clear hvs hold hT hdf hsz
  simp only [AV, Act.put, zz, ze]
  obtain ⟨g13, e13, hb13, l13, u13⟩ := e13
  obtain ⟨g14, e14, hb14, l14, u14⟩ := e14
  replace e42 : Ba wz (fun b => lo 2 <= b /\ b < hi 2) (vs 42) ⟨q, true, qs, []⟩ := e42
  replace e45 : ∃ A c, vs 45 = .agg (cc q false (.slice none 0 0) (.slice A n2 c)) /\ Sl wz (fun b => lo 5 <= b /\ b < hi 5) 2 (.slice A n2 c) n2 ys := e45
  obtain ⟨A45, c45, e45, s45⟩ := e45
  obtain ⟨B, hB, sB, oB⟩ := Ba.row e42
  rw [hB] at e42
  have a67 := hap 6 7 (by decide) (by decide) (by decide) (by decide) (by decide)
  have a62 := hap 6 2 (by decide) (by decide) (by decide) (by decide) (by decide)
  have a65 := hap 6 5 (by decide) (by decide) (by decide) (by decide) (by decide)
  have a72 := hap 7 2 (by decide) (by decide) (by decide) (by decide) (by decide)
  have a75 := hap 7 5 (by decide) (by decide) (by decide) (by decide) (by decide)
  have L6 := (hlim 6 (by decide) (by decide)).1
  have L7 := (hlim 7 (by decide) (by decide)).1
  have L2 := (hlim 2 (by decide) (by decide)).1
  have L5 := (hlim 5 (by decide) (by decide)).1
  have n34 : g13 ≠ g14 := by omega
  have hi35 : (Tryz.prog.info? 96).map (·.size) = some 35 := by kernel_rfl
  have hz35 : (zeroCells Tryz.prog 96).size = 35 := by kernel_rfl
  have hs2 := hS.new2 hW (.box g13 96 (zeroCells Tryz.prog 96)) (.box g14 96 (zeroCells Tryz.prog 96)) ⟨by omega, hb13⟩ ⟨by omega, hb14⟩ (fun k e1 e2 => by injection e1 with e1; injection e2 with e2; omega)
  have hfree : ∀ (b : Nat), w_.heap.size <= b -> b ≠ g13 -> b ≠ g14 -> Em (.box g13 96 (zeroCells Tryz.prog 96) :: .box g14 96 (zeroCells Tryz.prog 96) :: .own (.slice A12 n2 c12) 56 2 n2 ys :: .own (.slice (some ⟨g11, 0, none⟩) n1 c11) 3 1 n1 (AM qs) :: .box g8 30 us :: .box g7 43 xs :: []) b := fun b hb h1 h2 f hf => by
   rcases List.mem_cons.1 hf with rfl | hf
   ·intro e; injection e with e; exact h1 e.symm
   ·rcases List.mem_cons.1 hf with rfl | hf
    ·intro e; injection e with e; exact h2 e.symm
    ·exact hS.fresh hb f hf
  have hs3 := (hs2.add (D := fun b => lo 2 <= b /\ b < hi 2) stable_cert e42 fun b hb _ => hfree b (by omega) (by omega) (by omega)).add (D := fun b => lo 5 <= b /\ b < hi 5) (Aj (by decide)) s45 fun b hb _ => hfree b (by omega) (by omega) (by omega)
  obtain ⟨K4, k43, kce, kcl, hS4⟩ : ∃ K4 : (Nat -> Prop) -> World -> Prop, (∀ D w, K4 D w -> K3 D w) /\ (∀ D w, K4 D w -> Ba w D (.agg B) ⟨q, true, qs, []⟩) /\ (∀ D w, K4 D w -> Sl w D 2 (.slice A45 n2 c45) n2 ys) /\ St W wz (.box g13 96 (zeroCells Tryz.prog 96) :: .box g14 96 (zeroCells Tryz.prog 96) :: .own (.slice A12 n2 c12) 56 2 n2 ys :: .own (.slice (some ⟨g11, 0, none⟩) n1 c11) 3 1 n1 (AM qs) :: .box g8 30 us :: .box g7 43 xs :: []) K4 := ⟨_, fun _ _ h => h.1.1, fun _ _ h => h.1.2, fun _ _ h => h.2, hs3⟩
  have SB := Lib.hid sB
  clear hs2 hs3 hfree hS hap hlim a67 a62 a65 a72 a75 L6 L7 L2 L5 l13 u13 l14 u14 e42 s45 hb13 hb14
  have hS := hS4
  clear hS4
  simp only [show vs (13 : Nat) = _ from e13, show vs (14 : Nat) = _ from e14, hB, e45]
  (intro o_ ho_; simp only [List.getElem?_toArray, List.getElem?_cons_succ, List.getElem?_cons_zero, Option.some.injEq] at ho_; subst ho_)
  refine Dj rfl rfl rfl (hS.box 0 rfl) (by rw [sB]; exact hi35) (by rw [sB, hz35]) oB fun w6 hX6 hU6 => ?_
  replace hS := hS.upd 0 rfl (.box g13 96 B) (BE hU6) ⟨(hS.holds _ (List.mem_of_getElem? (i := 0) rfl)).1, hX6⟩ fun _ e => .inl e
  (intro o_ ho_; simp only [List.getElem?_toArray, List.getElem?_cons_succ, List.getElem?_cons_zero, Option.some.injEq] at ho_; subst ho_)
  simp only [Act.put, List.setIfInBounds_toArray, List.set_cons_zero, List.set_cons_succ]
  refine Dj rfl rfl rfl (hS.box 1 rfl) (by rw [CN _ _ _ _ H32.out]; exact hi35) (by rw [CN _ _ _ _ H32.out, hz35]) (cc_one _ _ _ _ _ _ _ _) fun w7 hX7 hU7 => ?_
  replace hS := hS.upd 1 rfl (.box g14 96 (cc q false (.slice none 0 0) (.slice A45 n2 c45))) (BE hU7) ⟨(hS.holds _ (List.mem_of_getElem? (i := 1) rfl)).1, hX7⟩ fun _ e => .inl e
  simp only [List.set_cons_zero, List.set_cons_succ] at hS
  clear hX6 hU6 hX7 hU7 hW sB oB hB hi35 hz35 e13 e14 e45
  simp only [CJ]
  simp only [Act.put, List.setIfInBounds_toArray, List.set_cons_zero, List.set_cons_succ]
  have HQL := Lib.hid hq1
  clear hq1 e40 e41 e43 e44
  generalize vs 40 = s40, vs 41 = s41, vs 43 = s43, vs 44 = s44
  go_wp2_with fail
  have HS1 : Hid (∀ (w : World) (D : Nat -> Prop), K4 D w -> BD w -> Calls Tryz.prog 46 #[.agg B, .agg (cc q true (.slice A1 n1 c1) (.slice none 0 0))] w (Aw (fun r _ => r = .bool true) w)) := Lib.hid fun w D h ht => by
   have h1 : Sl w D 1 (.slice A1 n1 c1) n1 (AM qs) := kq _ _ (k32 _ _ (k43 _ _ h))
   rw [<- HQL.out] at h1 ⊢
   have h2 : IsRCert w D (.agg (cc q true (.slice A1 qs.length c1) (.slice none 0 0))) ⟨q, true, qs, []⟩ := ⟨_, _, rfl, H32.out, HBY.out, h1, Sl.none_⟩
   have := csame_any _ _ _ _ w D D (kce _ _ h) h2 (fun z hz => by simp at hz) (fun z hz => by simp at hz) ht
   rwa [eqC_self] at this
  have HS2 : Hid (∀ (w : World) (D : Nat -> Prop), K4 D w -> BD w -> Calls Tryz.prog 46 #[.agg (cc q false (.slice none 0 0) (.slice A45 n2 c45)), .agg (cc q false (.slice none 0 0) (.slice A10 n2 c10))] w (Aw (fun r _ => r = .bool true) w)) := Lib.hid fun w D h ht => by
   have h1 := kcl _ _ h
   have h2 := kru _ _ (k43 _ _ h)
   have h3 := kcc _ _ (k43 _ _ h)
   rw [<- HN2.out] at h1 h2 ⊢
   have h4 : Ba w D (.agg (cc q false (.slice none 0 0) (.slice A45 cu.length c45))) ⟨q, false, [], cu⟩ := Ba.of_cc H32.out HBY.out Sl.none_ ⟨ys, h1, h3⟩
   have h5 : IsRCert w D (.agg (cc q false (.slice none 0 0) (.slice A10 cu.length c10))) ⟨q, false, [], cu⟩ := ⟨_, _, rfl, H32.out, HBY.out, Sl.none_, h2⟩
   have := csame_any _ _ _ _ w D D h4 h5 HSM.out HSM.out ht
   rwa [eqC_self] at this
  have HSZ : Hid ((Tryz.prog.info? 96).map (·.size) = some 35) := Lib.hid (by kernel_rfl)
  have HI32 : Hid ((Tryz.prog.info? 86).map (·.size) = some (Ad q).toArray.size) := Lib.hid (by rw [List.size_toArray, Ae, H32.out]; kernel_rfl)
  have HON : Hid ((Ad q).toArray.all (·.oneCell') = true) := Lib.hid (all_oneCell_toArray (B7 _))
  have HOL : Hid ((Ad (List.replicate 32 0)).toArray.size = (Ad q).toArray.size) := Lib.hid (by simp [Ae, H32.out])
  go_loopw [48] (fun i wr => ∃ (j : Nat) (zs : List Int), i = .int .i64 (j : Nat) /\ j <= n1 /\ Hid (zs.length = n1) /\ St W wr (.box g13 96 B :: .box g14 96 (cc q false (.slice none 0 0) (.slice A45 n2 c45)) :: .own (.slice A12 n2 c12) 56 2 n2 ys :: .own (.slice (some ⟨g11, 0, none⟩) n1 c11) 3 1 n1 (AM zs) :: .box g8 30 us :: .box g7 43 xs :: []) K4) (fun i _ => n1 - (intOf i).toNat)
  case atStart => exact ⟨0, qs, rfl, by omega, HQL, hS⟩
  case round =>
   clear hS
   obtain ⟨j, zs, rfl, hj, HZL, hS⟩ := hrel
   by_cases hlj : j < n1
   ·have HC4 : Hid ((AM zs)[j]? = some (.int .i64 (zs.getD j 0))) := Lib.hid (ints_at zs j (by rw [HZL.out]; exact hlj))
    have HIX : Hid (∀ w : World, (Instr.indexAt 74 (.slice (some ⟨g11, 0, none⟩) n1 c11) (.int .i64 (j : Nat))).run Tryz.prog w = .ok (.pointer (some ⟨g11, j, none⟩)) w) := Lib.hid fun w => by
     have h := Ai (P := Tryz.prog) (b := g11) (o := 0) (c := c11) (k := .i64) (w := w) Tryz.underlying74 (size := 1) (by kernel_rfl) rfl hlj
     rw [Nat.zero_add, Nat.mul_one] at h; exact h
    have hb1 : j < n1 * 1 := by omega
    generalize zs.getD j 0 = z at *
    go_wp2_with (first
     | ((with_reducible refine qB ?_); refine qc ?_ ?_ <;> intro h_ <;> go_prune)
     | ((with_reducible refine qA 53 ?_); refine BigFrame.wpList_want rfl fun _ hK => Bp (v := .pointer (some ⟨g11, j, none⟩)) rfl rfl rfl (HIX.out _) (hK _ _ ?_))
     | ((with_reducible refine qA 56 ?_); refine BigFrame.wpList_want rfl fun _ hK => Bp (v := .pointer (some ⟨g11, j, none⟩)) rfl rfl rfl (HIX.out _) (hK _ _ ?_))
     | ((with_reducible refine qA 54 ?_); refine BigFrame.wpList_want rfl fun _ hK => Ao rfl rfl (by kernel_rfl) (BV (hS.own 3 rfl) _ _ HC4.out) (hK _ _ ?_))
     | ((with_reducible refine qm 3 ?_); refine Dw hS 3 rfl _ _ _ rfl g11 j _ rfl rfl rfl (by omega) rfl rfl (by kernel_rfl) ?_; clear hS; intro w_ hS; (try simp only [Act.put, Act.eval, zz, Value.cells] at hS)))
    refine ⟨⟨j + 1, zs.set j (wrap64 (z + 1)), by go_num, hlj, Lib.hid (by rw [List.length_set]; exact HZL.out), ?_⟩, by simp [intOf]; omega⟩
    rw [show ∀ y : Int, AM (zs.set j y) = (AM zs).set j (.int .i64 y) from fun y => by unfold AM; rw [List.map_set]]
    exact hS
   ·obtain rfl : n1 = j := by omega
    go_wp2_with (first | ((with_reducible refine qB ?_); refine qc ?_ ?_ <;> intro h_ <;> go_prune))
    go_loopw [60] (fun i wr => ∃ (j : Nat) (vs : List Value), i = .int .i64 (j : Nat) /\ j <= n2 /\ St W wr (.box g13 96 B :: .box g14 96 (cc q false (.slice none 0 0) (.slice A45 n2 c45)) :: .own (.slice A12 n2 c12) 56 2 n2 vs :: .own (.slice (some ⟨g11, 0, none⟩) n1 c11) 3 1 n1 (AM zs) :: .box g8 30 us :: .box g7 43 xs :: []) K4) (fun i _ => n2 - (intOf i).toNat)
    case atStart => exact ⟨0, ys, rfl, by omega, hS⟩
    case round =>
     clear hS
     obtain ⟨j, vs, rfl, hj, hS⟩ := hrel
     by_cases hlj : j < n2
     ·obtain ⟨gv, cv, hev, hcv, _⟩ := DV (hS.own 2 rfl) (by omega)
      obtain ⟨rfl, rfl⟩ : A12 = some ⟨gv, 0, none⟩ /\ c12 = cv := by injection hev with h1 _ h3; exact ⟨h1, h3⟩
      clear hev
      have HIX : Hid (∀ w : World, (Instr.indexAt 41 (.slice (some ⟨gv, 0, none⟩) n2 c12) (.int .i64 (j : Nat))).run Tryz.prog w = .ok (.pointer (some ⟨gv, j * 2, none⟩)) w) := Lib.hid fun w => by
       have h := Ai (P := Tryz.prog) (b := gv) (o := 0) (c := c12) (k := .i64) (w := w) Tryz.underlying41 (size := 2) (by kernel_rfl) rfl hlj
       rw [Nat.zero_add] at h; exact h
      go_wp2_with (first
       | ((with_reducible refine qB ?_); refine qc ?_ ?_ <;> intro h_ <;> go_prune)
       | ((with_reducible refine qA 65 ?_); refine BigFrame.wpList_want rfl fun _ hK => BP rfl (ps := []) (by simp) (cells := #[.slice none 0 0, .slice none 0 0]) (by kernel_rfl) (hK _ _ ?_))
       | ((with_reducible refine qA 66 ?_); refine BigFrame.wpList_want rfl fun _ hK => Bp (v := .pointer (some ⟨gv, j * 2, none⟩)) rfl rfl rfl (HIX.out _) (hK _ _ ?_))
       | ((with_reducible refine qm 56 ?_); refine BigFrame.wpList_want rfl fun _ hK => Je (i := j * 2) rfl rfl rfl (hS.own 2 rfl) (by omega) rfl rfl (by kernel_rfl) fun w3 hX hU => hK _ _ ?_; replace hS := hS.upd 2 rfl (.own (.slice (some ⟨gv, 0, none⟩) n2 c12) 56 2 n2 _) (BE hU) hX (fun _ e => .inl e); simp only [List.set_cons_zero, List.set_cons_succ] at hS))
      exact ⟨⟨j + 1, _, by go_num, hlj, hS⟩, by simp [intOf]; omega⟩
     ·obtain rfl : n2 = j := by omega
      go_wp2_with (first
       | ((with_reducible refine qB ?_); refine qc ?_ ?_ <;> intro h_ <;> go_prune)
       | ((with_reducible refine qA 68 ?_); refine DU hS 4 rfl _ _ rfl g8 rfl _ _ rfl _ Tryz.underlying30 rfl (by rw [hu6.out]; kernel_rfl) ?_)
       | (go_at_call 41; refine (HRP.out _ _ (kr _ _ (k32 _ _ (k43 _ _ hS.ro)))).mono ?_; rintro r_ w_ ⟨_, rfl, rfl, hb_⟩; replace hS := hS.ext hb_; clear hb_)
       | ((with_reducible refine qA 17 ?_); refine Cp hS rfl _ rfl (by kernel_rfl) (Ad (List.replicate 32 0)).toArray (by kernel_rfl) ?_; clear hS; intro g17 w_ hS; (try simp only [Act.put, Act.eval, zz, Value.cells] at hS))
       | ((with_reducible refine qm 86 ?_); refine Cc hS 0 rfl _ _ _ rfl g17 (Ad q).toArray rfl rfl _ _ rfl HI32.out HOL.out HON.out ?_; clear hS; intro w_ hS; (try simp only [Act.put, Act.eval, zz, Value.cells] at hS))
       | ((with_reducible refine qA 70 ?_); refine DU hS 1 rfl _ _ rfl g13 rfl _ B rfl _ Tryz.underlying96 rfl (by rw [SB.out]; exact HSZ.out) ?_)
       | ((with_reducible refine qA 71 ?_); refine DU hS 0 rfl _ _ rfl g17 rfl _ _ rfl _ Tryz.underlying86 rfl HI32.out ?_)
       | ((with_reducible refine qA 77 ?_); refine BigFrame.wpList_want rfl fun _ hK => CL rfl rfl (hS.box 0 rfl) Tryz.underlying86 rfl HI32.out (hK _ _ ?_))
       | ((with_reducible refine qA 76 ?_); refine BigFrame.wpList_want rfl fun _ hK => CL rfl rfl (hS.box 2 rfl) Tryz.underlying96 rfl (by rw [CN _ _ _ _ H32.out]; exact HSZ.out) (hK _ _ ?_))
       | ((with_reducible refine qA 73 ?_); refine BigFrame.wpList_want rfl fun _ hK => BP rfl (ps := [(0, .agg (Ad q).toArray), (1, .bool true), (2, .slice A1 n1 c1)]) (by simp [Act.eval]) (rcert_plan q A1 n1 c1 H32.out) (hK _ _ ?_))
       | ((with_reducible refine qA 79 ?_); refine BigFrame.wpList_want rfl fun _ hK => BP rfl (ps := [(0, .agg (Ad q).toArray), (3, .slice A10 n2 c10)]) (by simp [Act.eval]) (rcert_cubes q A10 n2 c10 H32.out) (hK _ _ ?_))
       | (go_at_call 46; first | ((with_reducible show Calls _ _ #[.agg B, _] _ _); refine (HS1.out _ _ hS.ro (HDT.out.ext hS.below)).mono ?_; rintro r_ w_ ⟨_, rfl, rfl, hb_⟩; replace hS := hS.ext hb_; clear hb_) | (refine (HS2.out _ _ hS.ro (HDT.out.ext hS.below)).mono ?_; rintro r_ w_ ⟨_, rfl, rfl, hb_⟩; replace hS := hS.ext hb_; clear hb_)))
      go_ret
      exact Aw.mk rfl hS.below
end
section
open Go.RowKit Go.ChangeShapes Go.WideShapes
section
variable {H : Type} {enc : TypeId × Value -> H} {P : Program} {w : World} {base : Nat} {sp : Nat -> Bool} {held : Bool}
theorem GU {t e : TypeId} {size fuel : Nat} {cs : List Value} {x : DataW H × List MemPlace} (ht : P.underlying t = some (.slice e)) (hc : P.cellsOf e = size) (hsz : 0 < size) (h : DataW.trod enc P w base sp held fuel t cs = some x) :
  ∃ v n xs, cs = [v] /\ Sl w (fun _ => True) size v n xs /\ ∀ k, k < n -> ∃ f' y, DataW.trod enc P w base sp held f' e ((xs.drop (k * size)).take size) = some y := by
 rcases DataW.trod_slice ht h with ⟨rfl, _⟩ | ⟨a, len, cap, elems, rest, n, _, rfl, _, hb, hl, hm, hlen, hel, _⟩
 ·exact ⟨_, 0, [], rfl, ⟨by simp, none, 0, rfl, Nat.le_refl _, Nat.zero_le _, fun h => by omega⟩, fun k hk => by omega⟩
 ·rw [hc] at hel
  have each : ∀ k, k < len -> ∃ ck y, w.cells? base (a.add (k * size)) size = some ck /\ DataW.trod enc P w base sp held n e ck = some y := by
   intro k hk
   have h1 := hel k hk
   rw [List.getElem?_eq_getElem (by omega)] at h1
   obtain ⟨ck, h2, h3⟩ := Option.bind_eq_some_iff.1 h1
   exact ⟨ck, _, h2, h3⟩
  have hadd : ∀ i j, (a.add i).add j = a.add (i + j) := by
   intro i j
   unfold Addr.add
   by_cases h1 : i = 0 <;> by_cases h2 : j = 0 <;> simp [h1, h2, Nat.add_assoc]
  have cell : ∀ j, j < len * size -> ∃ x, w.cell? (a.add j) = some x := by
   intro j hj
   have hk : j / size < len := (Nat.div_lt_iff_lt_mul hsz).2 hj
   obtain ⟨ck, y, h1, h2⟩ := each _ hk
   obtain ⟨_, h3, h4⟩ := World.cells?_some h1
   have h5 := h4 (j % size) (Nat.mod_lt _ hsz)
   rw [hadd, Nat.mul_comm, Nat.div_add_mod] at h5
   rw [h5, List.getElem?_eq_getElem (by rw [h3]; exact Nat.mod_lt _ hsz)]
   exact ⟨_, rfl⟩
  refine ⟨.slice (some a) len cap, len, (List.range (len * size)).map fun j => (w.cell? (a.add j)).getD undef, rfl, ⟨by simp, some a, cap, rfl, hl, hm, fun h0 => ?_⟩, fun k hk => ?_⟩
  ·obtain ⟨x0, hx0⟩ := cell 0 (Nat.mul_pos h0 hsz)
   obtain ⟨b, o, s⟩ := a
   have hs : s = none := cell_spot hx0
   subst hs
   refine ⟨b, o, rfl, trivial, ?_, fun j x hx => ?_⟩
   ·have := hx0
    unfold World.cell? at this
    simp only [Addr.add] at this
    rcases Nat.lt_or_ge b w.heap.size with hlt | hge
    ·exact hlt
    ·simp [Array.getElem?_eq_none hge] at this
   ·simp only [List.getElem?_map, Option.map_eq_some_iff] at hx
    obtain ⟨j', hj', rfl⟩ := hx
    have hjl := (List.getElem?_eq_some_iff.1 hj').1
    rw [List.getElem?_range (by simpa using hjl)] at hj'
    obtain rfl := Option.some.inj hj'
    obtain ⟨y, hy⟩ := cell j (by simpa using hjl)
    rw [hy]
    have e : (⟨b, o, none⟩ : Addr).add j = ⟨b, o + j, none⟩ := by
     unfold Addr.add; split <;> simp [*]
    rw [e] at hy
    exact hy
  ·obtain ⟨ck, y, h1, h2⟩ := each k hk
   obtain ⟨_, h3, h4⟩ := World.cells?_some h1
   refine ⟨n, y, ?_⟩
   rw [<- h2]
   congr 1
   have hle : k * size + size <= len * size := by
    rw [<- Nat.succ_mul]; exact Nat.mul_le_mul_right _ hk
   apply List.ext_getElem?
   intro i
   rcases Nat.lt_or_ge i size with hi | hi
   ·rw [List.getElem?_take_of_lt hi, List.getElem?_drop, List.getElem?_map, List.getElem?_range (by omega)]
    have h5 := h4 i hi
    rw [hadd] at h5
    simp only [Option.map_some]
    rw [h5, List.getElem?_eq_getElem (by omega)]
    simp
   ·rw [List.getElem?_eq_none (by simp; omega), List.getElem?_eq_none (by omega)]
end
theorem sl_ints {H : Type} {enc : TypeId × Value -> H} {w : World} {base : Nat} {sp : Nat -> Bool} {held : Bool} {fuel : Nat} {cs : List Value} {x : DataW H × List MemPlace} (h : DataW.trod enc Tryz.prog w base sp held fuel 74 cs = some x) :
  ∃ v zs, cs = [v] /\ Sl w (fun _ => True) 1 v zs.length (AM zs) := by
 obtain ⟨v, n, xs, rfl, hs, he⟩ := GU Tryz.underlying74 (size := 1) (by kernel_rfl) (by decide) h
 have hl := hs.1
 have : ∃ zs : List Int, xs = AM zs := by
  have : ∀ v ∈ xs, ∃ z : Int, v = .int .i64 z := by
   intro v hv
   obtain ⟨k, hk, hkv⟩ := List.mem_iff_getElem.1 hv
   obtain ⟨f', y, hy⟩ := he k (by omega)
   obtain ⟨z, hz, _⟩ := DataW.trod_int Tryz.underlying3 hy
   have h0 := congrArg (·[0]?) hz
   simp only [Nat.mul_one, List.getElem?_take_of_lt Nat.zero_lt_one, List.getElem?_drop, Nat.add_zero] at h0
   rw [List.getElem?_eq_getElem hk, hkv] at h0
   exact ⟨z, by simpa using h0⟩
  clear hs he hl h
  induction xs with
  | nil => exact ⟨[], rfl⟩
  | cons a r ih =>
   obtain ⟨zs, rfl⟩ := ih fun v hv => this v (List.mem_cons_of_mem _ hv)
   obtain ⟨z, rfl⟩ := this a List.mem_cons_self
   exact ⟨z :: zs, rfl⟩
 obtain ⟨zs, rfl⟩ := this
 have hz : zs.length = n := by simpa [AM] using hl
 exact ⟨v, zs, rfl, hz ▸ hs⟩
theorem list3 {α : Type} {l : List α} (h : l.length = 3) : ∃ a b c, l = [a, b, c] := by
 match l, h with
 | [a, b, c], _ => exact ⟨a, b, c, rfl⟩
theorem list3r {α : Type} {l : List α} {n : Nat} (h : l.length = (n + 1) * 3) : ∃ a b c r, l = a :: b :: c :: r := by
 match l, h with
 | [], h => simp at h
 | [_], h => simp at h; omega
 | [_, _], h => simp at h; omega
 | a :: b :: c :: r, _ => exact ⟨a, b, c, r, rfl⟩
theorem u8_nat {n : Int} (h : (Lit.int .u8 n).wf = true) : ∃ m : Nat, n = (m : Int) /\ m < 256 := by
 have := bounds_u8 h
 exact ⟨n.toNat, by omega, by omega⟩
theorem sl_raws {H : Type} {enc : TypeId × Value -> H} {w : World} {base : Nat} {sp : Nat -> Bool} {held : Bool} {fuel : Nat} {cs : List Value} {x : DataW H × List MemPlace} (h : DataW.trod enc Tryz.prog w base sp held fuel 92 cs = some x) :
  ∃ v zs, cs = [v] /\ Sl w (fun _ => True) 3 v (List.length zs) (Bv zs) /\ ∀ c ∈ zs, Hc.ok c := by
 obtain ⟨v, n, xs, rfl, hs, he⟩ := GU Tryz.underlying92 (size := 3) (by kernel_rfl) (by decide) h
 have hl := hs.1
 have : ∃ zs : List Hc, xs = Bv zs /\ zs.length = n /\ ∀ c ∈ zs, c.ok := by
  clear hs h
  induction n generalizing xs with
  | zero => exact ⟨[], List.length_eq_zero_iff.1 (by simpa using hl), rfl, by simp⟩
  | succ n ih =>
   obtain ⟨f', y, hy⟩ := he 0 (by omega)
   simp only [Nat.zero_mul, List.drop_zero] at hy
   obtain ⟨zs, hz, hn, hok⟩ := ih (xs.drop 3) (fun k hk => by
    obtain ⟨f', y, h⟩ := he (k + 1) (by omega)
    refine ⟨f', y, ?_⟩
    rw [List.drop_drop]
    rw [show 3 + k * 3 = (k + 1) * 3 by omega]
    exact h) (by simp; omega)
   obtain ⟨ys, m, rfl, _, _, hyl, hf⟩ := DataW.trod_struct Tryz.underlying168 hy
   obtain ⟨y0, y1, y2, rfl⟩ := list3 (show ys.length = 3 from hyl)
   obtain ⟨a, b, c, r, rfl⟩ := list3r hl
   ·clear hyl
    have g0 : DataW.trod enc Tryz.prog w base sp held m 5 (((a :: b :: c :: r).take 3).drop 0 |>.take (Tryz.prog.cellsOf 5)) = some y0 := hf 0 _ rfl
    have g1 : DataW.trod enc Tryz.prog w base sp held m 5 (((a :: b :: c :: r).take 3).drop 1 |>.take (Tryz.prog.cellsOf 5)) = some y1 := hf 1 _ rfl
    have g2 : DataW.trod enc Tryz.prog w base sp held m 4 (((a :: b :: c :: r).take 3).drop 2 |>.take (Tryz.prog.cellsOf 4)) = some y2 := hf 2 _ rfl
    have c1 : Tryz.prog.cellsOf 5 = 1 := by kernel_rfl
    have c2 : Tryz.prog.cellsOf 4 = 1 := by kernel_rfl
    rw [c1] at g0 g1
    rw [c2] at g2
    obtain ⟨n0, e0, _, w0⟩ := DataW.trod_int Tryz.underlying5 (x := y0) (by simpa using g0)
    obtain ⟨n1, e1, _, w1⟩ := DataW.trod_int Tryz.underlying5 (x := y1) (by simpa using g1)
    obtain ⟨n2, e2, _⟩ := DataW.trod_bool Tryz.underlying4 (x := y2) (by simpa using g2)
    obtain ⟨m0, rfl, l0⟩ := u8_nat w0
    obtain ⟨m1, rfl, l1⟩ := u8_nat w1
    simp at e0 e1 e2
    subst e0 e1 e2
    refine ⟨⟨m0, m1, n2⟩ :: zs, ?_, by simp [hn], fun c hc => ?_⟩
    ·show _ = _ :: _ :: _ :: Bv zs
     rw [<- hz]; rfl
    ·rcases List.mem_cons.1 hc with rfl | hc
     ·exact ⟨l0, l1⟩
     ·exact hok c hc
 obtain ⟨zs, rfl, rfl, hok⟩ := this
 exact ⟨v, zs, rfl, hs, hok⟩
end
section
open Go.ChangeShapes Go.WideShapes Go.ChangeAt Go.RowKit
set_option maxRecDepth 20000 in
theorem bytes_open {H : Type} {enc : TypeId × Value -> H} {W : World} {r : Reach} {b0 base : Nat} {sp : Nat -> Bool} {held : Bool} {v : Value} {d : DataW H} {p : List MemPlace} (hv : Value.okWide Tryz.prog W r b0 22 v) (h : DataW.Trod enc Tryz.prog W base sp held 22 v d p) :
  ∃ l : List Nat, (∀ x ∈ l, x < 256) /\ Sl W (fun _ => True) 1 v l.length (Ad l) := by
 obtain ⟨a0, len0, cap0, rfl⟩ := okWide_slice Tryz.underlying22 hv
 obtain ⟨fuel, hf⟩ := h
 obtain ⟨v, n, xs, e, hs, he⟩ := GU Tryz.underlying22 (size := 1) (by kernel_rfl) (by decide) hf
 have hl := hs.1
 have : ∃ zs : List Nat, (∀ x ∈ zs, x < 256) /\ xs = Ad zs := by
  have : ∀ v ∈ xs, ∃ z : Nat, z < 256 /\ v = .int .u8 (z : Nat) := by
   intro v hv
   obtain ⟨k, hk, hkv⟩ := List.mem_iff_getElem.1 hv
   obtain ⟨f', y, hy⟩ := he k (by omega)
   obtain ⟨z, hz, _, hw⟩ := DataW.trod_int Tryz.underlying5 hy
   obtain ⟨m, rfl, hm⟩ := u8_nat hw
   have h0 := congrArg (·[0]?) hz
   simp only [Nat.mul_one, List.getElem?_take_of_lt Nat.zero_lt_one, List.getElem?_drop, Nat.add_zero] at h0
   rw [List.getElem?_eq_getElem hk, hkv] at h0
   exact ⟨m, hm, by simpa using h0⟩
  clear hs he hl
  induction xs with
  | nil => exact ⟨[], fun x hx => by simp at hx, rfl⟩
  | cons a r ih =>
   obtain ⟨zs, hzs, rfl⟩ := ih fun v hv => this v (List.mem_cons_of_mem _ hv)
   obtain ⟨z, hz, rfl⟩ := this a List.mem_cons_self
   exact ⟨z :: zs, fun x hx => by rcases List.mem_cons.1 hx with rfl | hx; exact hz; exact hzs x hx, rfl⟩
 obtain ⟨zs, hzs, rfl⟩ := this
 have hz : zs.length = n := by simpa [Ad] using hl
 obtain rfl : v = .slice a0 len0 cap0 := by simpa [Value.cells] using e.symm
 exact ⟨zs, hzs, hz ▸ hs⟩
end
section
open Go.RowKit Go.ChangeShapes Go.WideShapes
theorem EJ {w : World} {n : String} {g : Nat} {t e : TypeId} {m : Nat} {k : IntKind} {zs : List Int} (hg : Tryz.prog.globalNamed n = some g) (hty : (Tryz.prog.globals[g]?).map (·.type) = some t)
  (ht : Tryz.prog.underlying t = some (.array m e)) (he : Tryz.prog.underlying e = some (.int k)) (hce : Tryz.prog.cellsOf e = 1) (hct : Tryz.prog.cellsOf t = m) (h : Lib.VarReads Tryz.prog w n (Lib.tabData k zs)) :
  ∃ t, BoxF w g t (zs.map fun z => Value.int k z).toArray := by
 obtain ⟨g', t', cs, fuel, p, hg', hty', hvar, hd⟩ := h
 obtain rfl := Option.some.inj (hg.symm.trans hg')
 obtain rfl := Option.some.inj (hty.symm.trans hty')
 have hcs := Lib.cells_of_tab ht he hce hct hd
 simp only [World.var?, hg, Option.bind_some] at hvar
 split at hvar
 ·rename_i cs' t'' f heq
  obtain rfl := Option.some.inj hvar
  refine ⟨(t'', f), ?_⟩
  rw [<- hcs]
  exact heq
 ·cases hvar
theorem tab_of_reads {w : World} (h1 : Lib.VarReads Tryz.prog w "arbac/keccak.rounds" Rows.laid_arbac_keccak_rounds) (h2 : Lib.VarReads Tryz.prog w "arbac/keccak.turns" Rows.laid_arbac_keccak_turns) : Gx w := by
 have e1 : (Rows.laid_arbac_keccak_rounds : DataW Unit) = Lib.tabData .u64 (Bm.map fun x : Nat => (x : Int)) := by kernel_rfl
 have e2 : (Rows.laid_arbac_keccak_turns : DataW Unit) = Lib.tabData .i64 (Co.map fun x : Nat => (x : Int)) := by kernel_rfl
 rw [e1] at h1
 rw [e2] at h2
 obtain ⟨t, b1⟩ := EJ (g := 1) (by kernel_rfl) (t := 273) (by kernel_rfl) Tryz.underlying273 Tryz.underlying26 (by kernel_rfl) (by kernel_rfl) h1
 obtain ⟨u, b2⟩ := EJ (g := 2) (by kernel_rfl) (t := 275) (by kernel_rfl) Tryz.underlying275 Tryz.underlying3 (by kernel_rfl) (by kernel_rfl) h2
 refine ⟨⟨t, ?_⟩, u, ?_⟩
 ·have : (List.map (fun z => Value.int .u64 z) (Bm.map fun x : Nat => (x : Int))) = At Bm := by simp [At]
  rw [<- this]; exact b1
 ·have : (List.map (fun z => Value.int .i64 z) (Co.map fun x : Nat => (x : Int))) = i64s Co := by simp [i64s]
  rw [<- this]; exact b2
end
section
open Go.RowKit Go.ChangeShapes Go.WideShapes
theorem dtab_of_reads {w : World} (h1 : Lib.VarReads Tryz.prog w "math/bits.deBruijn64tab" Rows.laid_math_bits_deBruijn64tab) : BD w := by
 have e1 : (Rows.laid_math_bits_deBruijn64tab : DataW Unit) = Lib.tabData .u8 (dbL.map fun x : Nat => (x : Int)) := by kernel_rfl
 rw [e1] at h1
 obtain ⟨t, b1⟩ := EJ (g := 0) (by kernel_rfl) (t := 225) (by kernel_rfl) Tryz.underlying225 Tryz.underlying5 (by kernel_rfl) (by kernel_rfl) h1
 have e : (List.map (fun z => Value.int .u8 z) (dbL.map fun x : Nat => (x : Int))) = Ad dbL := by simp [Ad]
 rw [e] at b1
 intro q hq
 rw [b1.cell, List.getElem?_toArray]
 exact CU _ _ hq
theorem tabs_of_reads {w : World} (h0 : Lib.VarReads Tryz.prog w "math/bits.deBruijn64tab" Rows.laid_math_bits_deBruijn64tab) (h1 : Lib.VarReads Tryz.prog w "arbac/keccak.rounds" Rows.laid_arbac_keccak_rounds) (h2 : Lib.VarReads Tryz.prog w "arbac/keccak.turns" Rows.laid_arbac_keccak_turns) : BD w /\ Gx w :=
 ⟨dtab_of_reads h0, tab_of_reads h1 h2⟩
end
section
open Go.ChangeShapes Go.WideShapes Go.ChangeAt Go.RowKit
set_option maxRecDepth 20000 in
theorem raws_open {H : Type} {enc : TypeId × Value -> H} {W : World} {r : Reach} {b0 base : Nat} {sp : Nat -> Bool} {held : Bool} {v : Value} {d : DataW H} {p : List MemPlace} (hv : Value.okWide Tryz.prog W r b0 92 v) (h : DataW.Trod enc Tryz.prog W base sp held 92 v d p) :
  ∃ m : List Hc, (∀ c ∈ m, c.ok) /\ Sl W (fun _ => True) 3 v m.length (Bv m) := by
 obtain ⟨a0, len0, cap0, rfl⟩ := okWide_slice Tryz.underlying92 hv
 obtain ⟨fuel, hf⟩ := h
 obtain ⟨v, zs, e, hs, hok⟩ := sl_raws hf
 obtain rfl : (Value.slice a0 len0 cap0) = v := by simpa [Value.cells] using e
 exact ⟨zs, hok, hs⟩
end
section
open Go.ChangeShapes Go.WideShapes Go.ChangeAt Go.RowKit
set_option maxRecDepth 20000 in
theorem ints_open {H : Type} {enc : TypeId × Value -> H} {W : World} {r : Reach} {b0 base : Nat} {sp : Nat -> Bool} {held : Bool} {v : Value} {d : DataW H} {p : List MemPlace} (hv : Value.okWide Tryz.prog W r b0 74 v) (h : DataW.Trod enc Tryz.prog W base sp held 74 v d p) :
  ∃ l : List Int, Sl W (fun _ => True) 1 v l.length (AM l) := by
 obtain ⟨a0, len0, cap0, rfl⟩ := okWide_slice Tryz.underlying74 hv
 obtain ⟨fuel, hf⟩ := h
 obtain ⟨v, l, e, hs⟩ := sl_ints hf
 obtain rfl : v = .slice a0 len0 cap0 := by simpa [Value.cells] using e.symm
 exact ⟨l, hs⟩
end
section
open Go.ChangeShapes Go.WideShapes Go.ChangeAt Go.RowKit
theorem Jy (W : World) (h : laidMetH Tryz.prog Rows.certificateMakesRow.laid W) : BD W /\ Gx W := by
 have h' : laidMetH Tryz.prog [("math/bits.deBruijn64tab", Rows.laid_math_bits_deBruijn64tab), ("arbac/keccak.rounds", Rows.laid_arbac_keccak_rounds), ("arbac/keccak.turns", Rows.laid_arbac_keccak_turns)] W := h
 rw [MakeChecks.laidMetH_plain _ _ _ (by kernel_rfl)] at h'
 exact tabs_of_reads (Lib.laidMet.reads h' (.head _)) (Lib.laidMet.reads h' (.tail _ (.head _))) (Lib.laidMet.reads h' (.tail _ (.tail _ (.head _))))
noncomputable def cmakStart (os : Os) : World := World.laidAll Tryz.prog os Rows.certificateMakesRow.laid
theorem KF (os : Os) (args : Array Value) : laidMetH Tryz.prog Rows.certificateMakesRow.laid ((cmakStart os).forCall (fun _ _ => 0) ⟨#[], args, []⟩).memory := by
 rw [MakeChecks.laidMetH_plain _ _ _ (by kernel_rfl)]
 exact laidMet_laidAll _ (by kernel_rfl) (by kernel_rfl)
theorem cmak_own : ownKnob Tryz.prog.godebug = none := by kernel_rfl
theorem Fn : laidOutB Tryz.prog = true := by kernel_rfl
set_option maxRecDepth 100000 in
theorem cmak_lifted (os : Os) (started : os.Started) (H : Type) (enc : TypeId × Value -> H) :
  ReturnsInHanded {} Tryz.checked os 10 .any (fun w args => (Rows.certificateMakesSpec.pre enc Tryz.prog Tryz.f10 [] false w args /\ laidMetH Tryz.prog Rows.certificateMakesRow.laid w) /\ sizedMet enc Tryz.prog Tryz.f10 (OpenSpec.ofChange Rows.certificateMakesSpec) false w args)
   (Rows.certificateMakesSpec.post enc Tryz.prog Tryz.f10 false true false false) := by
 refine returnsInHanded_of_change_and (C := Tryz.checked) (X := fun w _ => laidMetH Tryz.prog Rows.certificateMakesRow.laid w) (fun _ _ _ hh h => h.of_heap hh) cmak_own started (by kernel_rfl) Tryz.func10
  (ChangeSpec.witness_shaped (enc := enc) (C := Tryz.checked) (os := os) (X := fun w _ => laidMetH Tryz.prog Rows.certificateMakesRow.laid w) false (cmakStart os) #[.slice none 0 0, .slice none 0 0, .slice none 0 0] 8 (World.laidAll_os _ _ _) (World.shaped_of_ZipB (by kernel_rfl) (by kernel_rfl)) (by kernel_rfl) (by kernel_rfl) (by kernel_rfl) (KF os _)) ?_
 intro W base args ds gs before hval0 hW _ _ hL _
 have hval : ∀ (j : Nat) t v, Tryz.f10.params[j]? = some t -> args[j]? = some v -> Value.okWide Tryz.prog W .any base t v := hval0
 have hW' := hW
 obtain ⟨p, q, hA0, hV, rfl, hfz, hnd⟩ := hW
 have hA : DataW.TrodAll enc Tryz.prog W 0 (fun _ => true) true Tryz.f10.params.toList args.toList ds p := hA0
 rw [Tryz.params10] at hA hval
 obtain ⟨v0, v1, v2, d0, d1, d2, p0, p1, p2, rfl, rfl, rfl, h0, h1, h2⟩ := trodAll_three hA
 obtain ⟨rfl, rfl⟩ := trodVars_none hV
 obtain ⟨l, hl, hs⟩ := bytes_open (hval 0 _ v0 rfl rfl) h0
 obtain ⟨pl, hs1⟩ := ints_open (hval 1 _ v1 rfl rfl) h1
 obtain ⟨m, hm, hs2⟩ := raws_open (hval 2 _ v2 rfl rfl) h2
 have hT := Jy W hL
 have lt : ∀ z ∈ p0 ++ p1 ++ p2, z.block < W.heap.size := fun z hz => by simpa using hW'.lt z (by simpa using hz)
 refine (lmakes_any v0 v1 v2 l pl m W _ _ _ hl hm hs hs1 hs2 hT.1 hT.2).mono fun E W' he => ?_
 obtain ⟨r, rfl, rfl, hb⟩ := he
 refine ⟨_, rfl, _, _, _, [], p0 ++ p1 ++ p2, [], hW', ?_, ?_, ?_, hb.frame _, fun h => by cases h⟩
 ·exact trodAll_mk1 (shut_bool Tryz.underlying4 true)
 ·rw [Tryz.params10]
  rw [List.append_assoc]
  exact trodAll_mk3 (Below.trod Fn (by kernel_rfl) (of_decide_eq_true (by kernel_rfl)) h0 hb fun z hz => lt z (List.mem_append_left _ (List.mem_append_left _ hz))) (Below.trod Fn (by kernel_rfl) (of_decide_eq_true (by kernel_rfl)) h1 hb fun z hz => lt z (List.mem_append_left _ (List.mem_append_right _ hz))) (Below.trod Fn (by kernel_rfl) (of_decide_eq_true (by kernel_rfl)) h2 hb fun z hz => lt z (List.mem_append_right _ hz))
 ·rfl
theorem cmak_holds : Rows.CertificateMakesSaid :=
 OpenClaim.holds_of_wide 10 Tryz.f10 rfl rfl rfl rfl rfl rfl rfl ⟨rfl, rfl, rfl, rfl, rfl⟩ rfl rfl rfl rfl rfl (by kernel_rfl) Tryz.func10 (by kernel_rfl)
  (of_decide_eq_true (by kernel_rfl)) (by unfold Func.isWrapper; rw [if_neg (by decide +kernel)]; exact ⟨rfl, rfl⟩)
  (fun os started H enc _ => cmak_lifted os started H enc)
end
section
open Go
theorem cmak_card : Rows.CertificateMakesCardSaid :=
 Claim7.holds_tied_plain_at .later [] [.data, .data, .data] true (true, "2f541ff0f2b150b94377df4c904e54df060b1cc989d168e7cdafb17d6c9b7b94") false
  cmak_holds (fun _ h => by cases h) (by kernel_rfl) (fun _ h => by cases h) certificateMakes_row_tie rfl ⟨rfl, rfl⟩ (by kernel_rfl) rfl
  (fun f fn hf hfn => by
   obtain rfl : f = 10 := Option.some.inj ((show Tryz.prog.funcNamed "arbac/arbaclaw36.CertificateMakes" = some 10 by kernel_rfl).symm.trans hf) |>.symm
   obtain rfl : fn = Tryz.f10 := (Option.some.inj (Tryz.func10.symm.trans hfn)).symm
   exact ⟨by kernel_rfl, fun j t ht => by
    rw [Tryz.params10] at ht
    have h3 : t = 22 \/ t = 74 \/ t = 92 := by
     rcases j with _ | _ | _ | j
     ·simp at ht; simp [<- ht]
     ·simp at ht; simp [<- ht]
     ·simp at ht; simp [<- ht]
     ·simp at ht
    rcases h3 with rfl | rfl | rfl
    ·exact (show Tryz.prog.wantsStandIn 22 = false by kernel_rfl)
    ·exact (show Tryz.prog.wantsStandIn 74 = false by kernel_rfl)
    ·exact (show Tryz.prog.wantsStandIn 92 = false by kernel_rfl)⟩)
  (by kernel_rfl)
end
end Go.Proofs.YtchjigffejhmfaaGreatDoor
namespace Go.Proofs.YtchjigffejhmfaaGreatDoor
#print axioms cmak_card
end Go.Proofs.YtchjigffejhmfaaGreatDoor
