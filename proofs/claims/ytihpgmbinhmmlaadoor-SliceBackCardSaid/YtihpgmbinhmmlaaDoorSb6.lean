/-
  The card of SliceBack.
-/
import Derived.Lib.MinMax
import Derived.Test.YtihpgmbinhmmlaaDoorRows
import Derived.ProofKit
import Derived.OpenShut
import Derived.Lib.LaidU8
import Derived.Lay
import Derived.MakeChecks
import Derived.LaidLaws
import Derived.Stop.Joined
import Derived.Test.YtihpgmbinhmmlaaDoorCards
import Derived.Test.YtihpgmbinhmmlaaDoorTie
import Derived.SevenTiedAt
import Derived.Test.YtihpgmbinhmmlaaDoorSb5
namespace Go.Proofs.YtihpgmbinhmmlaaDoor
open Go.RowKit
attribute [local go_sem ↓] Go.wp_at_zero Go.wp_at_succ
set_option maxRecDepth 20000
set_option exponentiation.threshold 5000

set_option maxHeartbeats 4000000 in
theorem useless_any {w0 : World} {D : Nat → Prop} {v : Value} {p : ProbD} (hp : IsProb w0 D v p) (hP : p.Ok) (hT : DTab w0) : Calls Tryd.prog 14 #[v] w0 fun e w' => ∃ u, e = .returned u ∧ St w0 w' [.own u 3 1 (useN p).length (ints (useN p))] fun _ _ => True := by
  obtain ⟨R, lk, st, rl, nl, gl⟩ := p
  have HP := Lib.hid hP
  have hP1 := hP.rules
  dsimp only at hP1
  clear hP
  obtain ⟨lp, s, rv, nv, gv, rfl, h1, h2, h3, h4, h5⟩ := hp
  dsimp only at h1 h2 h3 h4 h5 ⊢
  obtain ⟨Cs, ns, cs, rfl⟩ := h2.shape
  obtain ⟨Ar, cr, rfl, _, _⟩ := h3.shape
  obtain ⟨An, cn, rfl, _, _⟩ := h4.shape
  obtain ⟨Ag, cg, rfl, _, _⟩ := h5.shape
  obtain ⟨K, kp, kho, ks, kr, kt, hS⟩ : ∃ K : (Nat → Prop) → World → Prop, (∀ D w, K D w → IsProb w D (.agg #[.int .i64 R, lp, .slice Cs ns cs, .slice Ar rl.length cr, .slice An nl.length cn, .slice Ag gl.length cg]) ⟨R, lk, st, rl, nl, gl⟩) ∧ (∀ D w, K D w → IsHo w D lp lk) ∧ (∀ D w, K D w → IsSet w D (.agg #[.slice Cs ns cs]) st) ∧ (∀ D w, K D w → IsRules w D (.slice Ar rl.length cr) rl) ∧ (∀ D w, K D w → DTab w) ∧ St w0 w0 [] K :=
    ⟨fun D w => ((IsHo w D lp lk ∧ IsSet w D (.agg #[.slice Cs ns cs]) st) ∧ IsRules w D (.slice Ar rl.length cr) rl ∧ IsCubes w D (.slice An nl.length cn) nl ∧ IsCubes w D (.slice Ag gl.length cg) gl) ∧ (DTab w ∧ D 0), fun _ _ h => ⟨_, _, _, _, _, rfl, h.1.1.1, h.1.1.2, h.1.2.1, h.1.2.2.1, h.1.2.2.2⟩, fun _ _ h => h.1.1.1, fun _ _ h => h.1.1.2, fun _ _ h => h.1.2.1, fun _ _ h => h.2.1,
      St.start (D := fun _ => True) (((stable_ho.and stable_set).and (stable_rules.and (stable_cubes.and stable_cubes))).and dtab_stable) ⟨⟨⟨stable_ho D _ w0 w0 h1 (Nat.le_refl _) (fun _ _ _ _ h => h) fun _ _ _ _ => trivial, h2.imp fun _ _ _ => trivial⟩, stable_rules D _ w0 w0 h3 (Nat.le_refl _) (fun _ _ _ _ h => h) fun _ _ _ _ => trivial, h4.imp fun _ _ _ => trivial, h5.imp fun _ _ _ => trivial⟩, hT, trivial⟩⟩
  clear h1 h2 h3 h4 h5 hT
  have KS := Lib.hid hS.stable
  obtain ⟨e, he⟩ : ∃ e, e = checkE ⟨R, lk, st, rl, nl, gl⟩ := ⟨_, rfl⟩
  have HE := Lib.hid he
  clear he
  by_cases h0 : e = 0
  · subst h0
    cases lk with
    | none => have := HE.out; cases this
    | some L =>
      have HH := Lib.hid (HP.out.links L rfl).1
      have HTG := Lib.hid fun (r : RuleD) (hr : r ∈ rl) => target_nat HE.out.symm rfl (r := r) hr
      have HUS : Hid (useN ⟨R, some L, st, rl, nl, gl⟩ = uslN (closM L (uppM L ⟨R, some L, st, rl, nl, gl⟩)) rl rl.length) := Lib.hid (by unfold useN; rw [if_pos HE.out.symm])
      rw [HUS.out]
      obtain ⟨q, o, rfl, -⟩ := id (kho _ _ hS.ro)
      have kh : ∀ D w, K D w → IsH w D (.pointer (some ⟨q, 0, none⟩)) L := fun D w h => kho D w h
      go_enter Tryd.func14, Tryd.ntmps14
      go_wp2_with (first
        | ((with_reducible show wpList _ _ _ (⟨some 1, _, _, _, _, _⟩ :: _) _ _); refine st_box hS rfl _ _ rfl (.agg #[.int .i64 R, .pointer (some ⟨q, 0, none⟩), .slice Cs ns cs, .slice Ar rl.length cr, .slice An nl.length cn, .slice Ag gl.length cg]) _ rfl rfl ?_; clear hS; intro g1 w_ hS; (try simp only [Act.put, Act.eval, List.set_cons_zero, List.set_cons_succ, List.setIfInBounds_toArray, Array.getD_eq_getD_getElem?, List.getElem?_toArray, List.getElem?_cons_succ, List.getElem?_cons_zero, Option.getD_some, Value.cells] at hS))
        | ((with_reducible show wpList _ _ _ (⟨some 3, _, _, _, _, _⟩ :: _) _ _); refine st_allocz hS rfl _ rfl (by kernel_rfl) #[.slice none 0 0] (by kernel_rfl) ?_; clear hS; intro g3 w_ hS; (try simp only [Act.put, Act.eval, List.set_cons_zero, List.set_cons_succ, List.setIfInBounds_toArray, Array.getD_eq_getD_getElem?, List.getElem?_toArray, List.getElem?_cons_succ, List.getElem?_cons_zero, Option.getD_some, Value.cells] at hS))
        | ((with_reducible show wpList _ _ _ (⟨_, .binOp _ _ _ _ _, _, _, _, _⟩ :: _) _ _); (first | (refine st_lss rfl _ _ _ _ rfl _ _ _ rfl rfl (fun h_ => ?_) (fun h_ => ?_)) | (refine st_leq rfl _ _ _ _ rfl _ _ _ rfl rfl (fun h_ => ?_) (fun h_ => ?_)) | (refine st_gtr rfl _ _ _ _ rfl _ _ _ rfl rfl (fun h_ => ?_) (fun h_ => ?_)) | (refine st_geq rfl _ _ _ _ rfl _ _ _ rfl rfl (fun h_ => ?_) (fun h_ => ?_)) | (refine st_eql rfl _ _ _ _ rfl _ _ _ rfl rfl (fun h_ => ?_) (fun h_ => ?_)) | (refine st_neq rfl _ _ _ _ rfl _ _ _ rfl rfl (fun h_ => ?_) (fun h_ => ?_))) <;> go_prune)
        | ((with_reducible show wpList _ _ _ (⟨_, .load _ _, _, _, _, _⟩ :: _) _ _); first | refine st_load hS 0 rfl _ _ rfl _ rfl _ _ rfl _ Tryd.underlying43 rfl (by kernel_rfl) ?_ | refine st_load hS 1 rfl _ _ rfl _ rfl _ _ rfl _ Tryd.underlying43 rfl (by kernel_rfl) ?_ | refine st_load hS 2 rfl _ _ rfl _ rfl _ _ rfl _ Tryd.underlying43 rfl (by kernel_rfl) ?_ | refine st_load hS 3 rfl _ _ rfl _ rfl _ _ rfl _ Tryd.underlying43 rfl (by kernel_rfl) ?_)
        | ((with_reducible show wpList _ _ _ (⟨_, .load 31 _, _, _, _, _⟩ :: _) _ _); first | (refine st_setl hS 0 rfl _ _ rfl _ _ rfl _ _ rfl _ (by first | rfl | assumption) Tryd.underlying31 rfl (by kernel_rfl) ?_) | (refine st_setl hS 1 rfl _ _ rfl _ _ rfl _ _ rfl _ (by first | rfl | assumption) Tryd.underlying31 rfl (by kernel_rfl) ?_) | (refine st_setl hS 2 rfl _ _ rfl _ _ rfl _ _ rfl _ (by first | rfl | assumption) Tryd.underlying31 rfl (by kernel_rfl) ?_) | (refine st_setl hS 3 rfl _ _ rfl _ _ rfl _ _ rfl _ (by first | rfl | assumption) Tryd.underlying31 rfl (by kernel_rfl) ?_) | (refine st_setl hS 4 rfl _ _ rfl _ _ rfl _ _ rfl _ (by first | rfl | assumption) Tryd.underlying31 rfl (by kernel_rfl) ?_) | (refine st_setl hS 5 rfl _ _ rfl _ _ rfl _ _ rfl _ (by first | rfl | assumption) Tryd.underlying31 rfl (by kernel_rfl) ?_))
        | ((with_reducible show wpList _ _ _ (⟨_, .store _ _ _, _, _, _, _⟩ :: _) _ _); (first | (refine st_store hS 0 rfl _ _ _ rfl _ _ rfl rfl _ _ rfl (by kernel_rfl) (by kernel_rfl) (by kernel_rfl) ?_) | (refine st_store hS 1 rfl _ _ _ rfl _ _ rfl rfl _ _ rfl (by kernel_rfl) (by kernel_rfl) (by kernel_rfl) ?_) | (refine st_store hS 2 rfl _ _ _ rfl _ _ rfl rfl _ _ rfl (by kernel_rfl) (by kernel_rfl) (by kernel_rfl) ?_) | (refine st_store hS 3 rfl _ _ _ rfl _ _ rfl rfl _ _ rfl (by kernel_rfl) (by kernel_rfl) (by kernel_rfl) ?_) | (refine st_cstore hS 0 rfl _ _ _ rfl _ _ _ rfl rfl rfl (by first | (simp; done) | (simp; omega) | exact of_decide_eq_true (by kernel_rfl)) rfl (by first | rfl | assumption) (by kernel_rfl) ?_) | (refine st_cstore hS 1 rfl _ _ _ rfl _ _ _ rfl rfl rfl (by first | (simp; done) | (simp; omega) | exact of_decide_eq_true (by kernel_rfl)) rfl (by first | rfl | assumption) (by kernel_rfl) ?_) | (refine st_cstore hS 2 rfl _ _ _ rfl _ _ _ rfl rfl rfl (by first | (simp; done) | (simp; omega) | exact of_decide_eq_true (by kernel_rfl)) rfl (by first | rfl | assumption) (by kernel_rfl) ?_) | (refine st_cstore hS 3 rfl _ _ _ rfl _ _ _ rfl rfl rfl (by first | (simp; done) | (simp; omega) | exact of_decide_eq_true (by kernel_rfl)) rfl (by first | rfl | assumption) (by kernel_rfl) ?_)); clear hS; intro w_ hS; (try simp only [Act.put, Act.eval, List.set_cons_zero, List.set_cons_succ, List.setIfInBounds_toArray, Array.getD_eq_getD_getElem?, List.getElem?_toArray, List.getElem?_cons_succ, List.getElem?_cons_zero, Option.getD_some, Value.cells] at hS))
        | (go_at_call 17; refine (schk_any (kp _ _ hS.ro) HP.out (kt _ _ hS.ro)).mono ?_; rw [← HE.out]; rintro r_ w_ ⟨_, rfl, rfl, hb_⟩; replace hS := hS.ext hb_; clear hb_))
      go_loopg [4] (2 * lacks st rl + 1) (fun k mv wr => ∃ (mb : Bool) (u : Value) (N : Nat), mv = .bool mb ∧ 2 * lacks N rl + (if mb = true then 1 else 0) ≤ k ∧ Hid (ULow L ⟨R, some L, st, rl, nl, gl⟩ N ∧ (mb = false → ∀ r ∈ rl, r.revoke = false → (r.yes &&& closM L N == r.yes) = true → hasB N r.target = true)) ∧ St w0 wr [.box g3 31 #[u], .box g1 43 #[.int .i64 R, .pointer (some ⟨q, 0, none⟩), .slice Cs ns cs, .slice Ar rl.length cr, .slice An nl.length cn, .slice Ag gl.length cg]] (fun D w => K D w ∧ IsSet w D (.agg #[u]) N))
      case atStart => exact ⟨true, _, st, rfl, by simp, Lib.hid ⟨⟨Sub.refl _, fun T hT => hT.start⟩, nofun⟩, hS.mono (KS.out.and stable_set) fun D w h => ⟨h, ks _ _ h⟩⟩
      case round =>
        clear hS
        obtain ⟨mb, u, B, rfl, hgk, HI, hS⟩ := hrel
        have HGK := Lib.hid hgk
        clear hgk
        cases mb
        · have HU : Hid (B = uppM L ⟨R, some L, st, rl, nl, gl⟩) := Lib.hid (ULeast.eq ⟨⟨HI.out.1.1, HI.out.2 rfl⟩, HI.out.1.2⟩)
          obtain ⟨N0, rfl⟩ : ∃ N0, N0 = B := ⟨_, rfl⟩
          clear HI HGK
          go_wp2_with (first | ((with_reducible show wpList _ _ _ (⟨_, .load _ _, _, _, _, _⟩ :: _) _ _); first | (refine st_cell hS 0 rfl _ _ rfl _ _ rfl _ _ rfl (by decide +kernel) _ (by first | assumption | rfl) ?_) | (refine st_cell hS 1 rfl _ _ rfl _ _ rfl _ _ rfl (by decide +kernel) _ (by first | assumption | rfl) ?_) | (refine st_cell hS 2 rfl _ _ rfl _ _ rfl _ _ rfl (by decide +kernel) _ (by first | assumption | rfl) ?_) | (refine st_cell hS 3 rfl _ _ rfl _ _ rfl _ _ rfl (by decide +kernel) _ (by first | assumption | rfl) ?_) | (refine st_cell hS 4 rfl _ _ rfl _ _ rfl _ _ rfl (by decide +kernel) _ (by first | assumption | rfl) ?_) | (refine st_cell hS 5 rfl _ _ rfl _ _ rfl _ _ rfl (by decide +kernel) _ (by first | assumption | rfl) ?_) | (refine st_cell hS 6 rfl _ _ rfl _ _ rfl _ _ rfl (by decide +kernel) _ (by first | assumption | rfl) ?_) | (refine st_cell hS 7 rfl _ _ rfl _ _ rfl _ _ rfl (by decide +kernel) _ (by first | assumption | rfl) ?_)))
          have hSn := hS.nil 3 1
          clear hS
          have hS := hSn
          clear hSn
          go_loopw [7, 51] (fun kw i wr => ∃ (j : Nat) (kv : Value), i = .int .i64 (j : Nat) ∧ kv = kw ∧ j ≤ rl.length ∧ St w0 wr (.own kv 3 1 (uslN (closM L N0) rl j).length (ints (uslN (closM L N0) rl j)) :: [.box g3 31 #[u], .box g1 43 #[.int .i64 R, .pointer (some ⟨q, 0, none⟩), .slice Cs ns cs, .slice Ar rl.length cr, .slice An nl.length cn, .slice Ag gl.length cg]]) (fun D w => K D w ∧ IsSet w D (.agg #[u]) N0)) (fun _ i _ => rl.length - (intOf i).toNat)
          case atStart => exact ⟨0, _, rfl, rfl, by omega, hS⟩
          case round =>
            clear hS
            obtain ⟨j, kv, rfl, rfl, hj, hS⟩ := hrel
            by_cases hlj : j < rl.length
            · obtain ⟨b, o2, y, n, rfl, _, hb, c0, c1, c2, c3, c4, hy, hn⟩ := (kr _ _ hS.ro.1).at_ hlj
              obtain ⟨Ay, my, cy, rfl⟩ := hy.shape
              obtain ⟨Am, mn, cm, rfl⟩ := hn.shape
              have HTN := Lib.hid (uslN_step (C := closM L N0) (getD_at dfltR hlj))
              have HLK : Hid ((uslN (closM L N0) rl j).length ≤ 100000) := Lib.hid (by unfold uslN; rw [List.length_map]; exact Nat.le_trans (List.length_filter_le _ _) (by rw [List.length_range]; omega))
              obtain ⟨KC, kc, hS2⟩ : ∃ KC : (Nat → Prop) → World → Prop, Hid (∀ D w, KC D w → K D w ∧ IsSet w D (.agg #[u]) N0 ∧ IsSet w D (.agg #[.slice Ay my cy]) (rl.getD j dfltR).yes ∧ IsSet w D (.agg #[.slice Am mn cm]) (rl.getD j dfltR).no) ∧ St w0 wr (.own kv 3 1 (uslN (closM L N0) rl j).length (ints (uslN (closM L N0) rl j)) :: [.box g3 31 #[u], .box g1 43 #[.int .i64 R, .pointer (some ⟨q, 0, none⟩), .slice Cs ns cs, .slice (some ⟨b, o2, none⟩) rl.length cr, .slice An nl.length cn, .slice Ag gl.length cg]]) KC := ⟨_, Lib.hid fun D w h => ⟨h.1.1, h.1.2, h.2.1, h.2.2⟩, hS.add (D := Free _) (stable_set.and stable_set) ⟨hy, hn⟩ fun _ h _ => h⟩
              clear hS hy hn
              have hS := hS2
              clear hS2
              generalize rl.getD j dfltR = z at *
              obtain ⟨rv, ry, rn, rt, ro⟩ := z
              dsimp only at kc c0 c1 c2 c3 c4 HTN
              obtain ⟨b2, hb2⟩ : ∃ b, b = (ry &&& closM L N0 == ry) := ⟨_, rfl⟩
              have HB2 := Lib.hid hb2
              rw [← hb2] at HTN
              clear hb2
              generalize hKN : uslN (closM L N0) rl j = KN at *
              clear hKN
              cases rv
              · cases b2
                · obtain ⟨b2, hb2'⟩ : ∃ b, b = false := ⟨_, rfl⟩
                  rw [← hb2'] at HB2
                  have hkl := HLK.out
                  go_wp2_with (first
                    | ((with_reducible show wpList _ _ _ (⟨_, .binOp _ _ _ _ _, _, _, _, _⟩ :: _) _ _); (first | (refine st_lss rfl _ _ _ _ rfl _ _ _ rfl rfl (fun h_ => ?_) (fun h_ => ?_)) | (refine st_leq rfl _ _ _ _ rfl _ _ _ rfl rfl (fun h_ => ?_) (fun h_ => ?_)) | (refine st_gtr rfl _ _ _ _ rfl _ _ _ rfl rfl (fun h_ => ?_) (fun h_ => ?_)) | (refine st_geq rfl _ _ _ _ rfl _ _ _ rfl rfl (fun h_ => ?_) (fun h_ => ?_)) | (refine st_eql rfl _ _ _ _ rfl _ _ _ rfl rfl (fun h_ => ?_) (fun h_ => ?_)) | (refine st_neq rfl _ _ _ _ rfl _ _ _ rfl rfl (fun h_ => ?_) (fun h_ => ?_))) <;> go_prune)
                    | ((with_reducible show wpList _ _ _ (⟨some 55, _, _, _, _, _⟩ :: _) _ _); refine BigFrame.wpList_want rfl fun _ hK => opw_mid (cs := [.bool _, .slice Ay my cy, .slice Am mn cm, .int .i64 rt, .int .i64 ro]) rfl rfl (rng5 c0 c1 c2 c3 c4) Tryd.underlying39 rfl (by kernel_rfl) (hK _ _ ?_))
                    | ((with_reducible show wpList _ _ _ (⟨some 9, _, _, _, _, _⟩ :: _) _ _); refine st_allocz hS rfl _ rfl (by kernel_rfl) #[.bool false, .slice none 0 0, .slice none 0 0, .int .i64 0, .int .i64 0] (by kernel_rfl) ?_; clear hS; intro g9 w_ hS; (try simp only [Act.put, Act.eval, List.set_cons_zero, List.set_cons_succ, List.setIfInBounds_toArray, Array.getD_eq_getD_getElem?, List.getElem?_toArray, List.getElem?_cons_succ, List.getElem?_cons_zero, Option.getD_some, Value.cells] at hS))
                    | ((with_reducible show wpList _ _ _ (⟨_, .store _ _ _, _, _, _, _⟩ :: _) _ _); (first | (refine st_store hS 0 rfl _ _ _ rfl _ _ rfl rfl _ _ rfl (by kernel_rfl) (by kernel_rfl) (by kernel_rfl) ?_) | (refine st_store hS 1 rfl _ _ _ rfl _ _ rfl rfl _ _ rfl (by kernel_rfl) (by kernel_rfl) (by kernel_rfl) ?_) | (refine st_store hS 2 rfl _ _ _ rfl _ _ rfl rfl _ _ rfl (by kernel_rfl) (by kernel_rfl) (by kernel_rfl) ?_) | (refine st_store hS 3 rfl _ _ _ rfl _ _ rfl rfl _ _ rfl (by kernel_rfl) (by kernel_rfl) (by kernel_rfl) ?_) | (refine st_cstore hS 0 rfl _ _ _ rfl _ _ _ rfl rfl rfl (by first | (simp; done) | (simp; omega) | exact of_decide_eq_true (by kernel_rfl)) rfl (by first | rfl | assumption) (by kernel_rfl) ?_) | (refine st_cstore hS 1 rfl _ _ _ rfl _ _ _ rfl rfl rfl (by first | (simp; done) | (simp; omega) | exact of_decide_eq_true (by kernel_rfl)) rfl (by first | rfl | assumption) (by kernel_rfl) ?_) | (refine st_cstore hS 2 rfl _ _ _ rfl _ _ _ rfl rfl rfl (by first | (simp; done) | (simp; omega) | exact of_decide_eq_true (by kernel_rfl)) rfl (by first | rfl | assumption) (by kernel_rfl) ?_) | (refine st_cstore hS 3 rfl _ _ _ rfl _ _ _ rfl rfl rfl (by first | (simp; done) | (simp; omega) | exact of_decide_eq_true (by kernel_rfl)) rfl (by first | rfl | assumption) (by kernel_rfl) ?_)); clear hS; intro w_ hS; (try simp only [Act.put, Act.eval, List.set_cons_zero, List.set_cons_succ, List.setIfInBounds_toArray, Array.getD_eq_getD_getElem?, List.getElem?_toArray, List.getElem?_cons_succ, List.getElem?_cons_zero, Option.getD_some, Value.cells] at hS)))
                  refine wp_region_typed (fun i__ v w => match i__ with
                    | 0 => v = .pointer (some ⟨g9, 0, none⟩)
                    | 1 => v = .bool false
                    | 2 => v = .bool true
                    | 3 => v = .bool true
                    | 4 => v = .pointer (some ⟨g9, 1, none⟩)
                    | 5 => v = .pointer (some ⟨g9, 1, none⟩)
                    | 6 => v = .agg #[.slice Ay my cy]
                    | 7 => v = .pointer (some ⟨g1, 1, none⟩)
                    | 8 => v = .pointer (some ⟨q, 0, none⟩)
                    | 9 => v = .agg #[u]
                    | 10 => IsSet w (fun _ => True) v (closM L N0)
                    | 11 => v = .bool b2
                    | 12 => v = .bool (!b2)
                    | 13 => v = .bool (!b2)
                    | _ => True) (by kernel_rfl) (by kernel_rfl) ?mono ⟨?r0, ?r1, ?r2, ?r3, ?r4, ?r5, ?r6, ?r7, ?r8, ?r9, ?r10, ?r11, ?r12, ?r13, trivial⟩ ?post
                  case mono =>
                    intro i v w w' h hb
                    match i, h with
                    | 0, h => exact h
                    | 1, h => exact h
                    | 2, h => exact h
                    | 3, h => exact h
                    | 4, h => exact h
                    | 5, h => exact h
                    | 6, h => exact h
                    | 7, h => exact h
                    | 8, h => exact h
                    | 9, h => exact h
                    | 10, h => exact h.ext hb
                    | 11, h => exact h
                    | 12, h => exact h
                    | 13, h => exact h
                    | _ + 14, h => trivial
                  case r0 =>
                    refine trule fun b__ w hW hold hpre => ⟨fun hwant K hK => ?_, fun hwant => ?_⟩
                    · clear hwant
                      have e9 : b__.eval (.tmp 9) = .pointer (some ⟨g9, 0, none⟩) := (hold 9 (by kernel_rfl)).trans rfl
                      exact opw_faddr rfl e9 (by kernel_rfl) (hK _ _ rfl (Below.refl _ _))
                    · rw [want_none rfl] at hwant; cases hwant
                  case r1 =>
                    refine trule fun b__ w hW hold hpre => ⟨fun hwant K hK => ?_, fun hwant => ?_⟩
                    · clear hwant
                      have e56 : b__.eval (.tmp 56) = .pointer (some ⟨g9, 0, none⟩) := hpre ⟨0, _⟩ (Array.mem_of_getElem? (i := 0) rfl) rfl _ _ rfl rfl
                      exact opw_cell rfl e56 (by kernel_rfl) (((hS.ext (undrew hW)).box 0 rfl).cell 0) (hK _ _ rfl (Below.refl _ _))
                    · rw [want_none rfl] at hwant; cases hwant
                  case r2 =>
                    refine trule fun b__ w hW hold hpre => ⟨fun hwant K hK => ?_, fun hwant => ?_⟩
                    · clear hwant
                      have e57 : b__.eval (.tmp 57) = .bool false := hpre ⟨1, _⟩ (Array.mem_of_getElem? (i := 0) rfl) rfl _ _ rfl rfl
                      exact opw_un rfl e57 rfl (hK _ _ rfl (Below.refl _ _))
                    · rw [want_none rfl] at hwant; cases hwant
                  case r3 =>
                    refine trule fun b__ w hW hold hpre => ⟨fun hwant K hK => ?_, fun hwant => ?_⟩
                    · clear hwant
                      have e58 : b__.eval (.tmp 58) = .bool true := hpre ⟨2, _⟩ (Array.mem_of_getElem? (i := 0) rfl) rfl _ _ rfl rfl
                      exact opw_move rfl e58 (hK _ _ rfl (Below.refl _ _))
                    · rw [want_none rfl] at hwant; cases hwant
                  case r4 =>
                    refine trule fun b__ w hW hold hpre => ⟨fun hwant K hK => ?_, fun hwant => ?_⟩
                    · clear hwant
                      have e9 : b__.eval (.tmp 9) = .pointer (some ⟨g9, 0, none⟩) := (hold 9 (by kernel_rfl)).trans rfl
                      exact opw_faddr rfl e9 (by kernel_rfl) (hK _ _ rfl (Below.refl _ _))
                    · rw [want_some rfl rfl rfl (show b__.eval (.tmp 59) = .bool true from (hpre ⟨3, _⟩ (Array.mem_of_getElem? (i := 0) rfl) rfl _ _ rfl rfl))] at hwant; cases hwant
                  case r5 =>
                    refine trule fun b__ w hW hold hpre => ⟨fun hwant K hK => ?_, fun hwant => ?_⟩
                    · clear hwant
                      have e60 : b__.eval (.tmp 60) = .pointer (some ⟨g9, 1, none⟩) := hpre ⟨4, _⟩ (Array.mem_of_getElem? (i := 0) rfl) rfl _ _ rfl rfl
                      exact opw_faddr rfl e60 (by kernel_rfl) (hK _ _ rfl (Below.refl _ _))
                    · rw [want_some rfl rfl rfl (show b__.eval (.tmp 59) = .bool true from (hpre ⟨3, _⟩ (Array.mem_of_getElem? (i := 1) rfl) rfl _ _ rfl rfl))] at hwant; cases hwant
                  case r6 =>
                    refine trule fun b__ w hW hold hpre => ⟨fun hwant K hK => ?_, fun hwant => ?_⟩
                    · clear hwant
                      have e61 : b__.eval (.tmp 61) = .pointer (some ⟨g9, 1, none⟩) := hpre ⟨5, _⟩ (Array.mem_of_getElem? (i := 0) rfl) rfl _ _ rfl rfl
                      exact opw_row1 rfl e61 ((hS.ext (undrew hW)).box 0 rfl) rfl Tryd.underlying31 (by kernel_rfl) (by kernel_rfl) (hK _ _ rfl (Below.refl _ _))
                    · rw [want_some rfl rfl rfl (show b__.eval (.tmp 59) = .bool true from (hpre ⟨3, _⟩ (Array.mem_of_getElem? (i := 1) rfl) rfl _ _ rfl rfl))] at hwant; cases hwant
                  case r7 =>
                    refine trule fun b__ w hW hold hpre => ⟨fun hwant K hK => ?_, fun hwant => ?_⟩
                    · clear hwant
                      have e1 : b__.eval (.tmp 1) = .pointer (some ⟨g1, 0, none⟩) := (hold 1 (by kernel_rfl)).trans rfl
                      exact opw_faddr rfl e1 (by kernel_rfl) (hK _ _ rfl (Below.refl _ _))
                    · rw [want_some rfl rfl rfl (show b__.eval (.tmp 59) = .bool true from (hpre ⟨3, _⟩ (Array.mem_of_getElem? (i := 0) rfl) rfl _ _ rfl rfl))] at hwant; cases hwant
                  case r8 =>
                    refine trule fun b__ w hW hold hpre => ⟨fun hwant K hK => ?_, fun hwant => ?_⟩
                    · clear hwant
                      have e63 : b__.eval (.tmp 63) = .pointer (some ⟨g1, 1, none⟩) := hpre ⟨7, _⟩ (Array.mem_of_getElem? (i := 0) rfl) rfl _ _ rfl rfl
                      exact opw_cell rfl e63 (by kernel_rfl) (((hS.ext (undrew hW)).box 3 rfl).cell 1) (hK _ _ rfl (Below.refl _ _))
                    · rw [want_some rfl rfl rfl (show b__.eval (.tmp 59) = .bool true from (hpre ⟨3, _⟩ (Array.mem_of_getElem? (i := 1) rfl) rfl _ _ rfl rfl))] at hwant; cases hwant
                  case r9 =>
                    refine trule fun b__ w hW hold hpre => ⟨fun hwant K hK => ?_, fun hwant => ?_⟩
                    · clear hwant
                      have e3 : b__.eval (.tmp 3) = .pointer (some ⟨g3, 0, none⟩) := (hold 3 (by kernel_rfl)).trans rfl
                      exact opw_row rfl e3 ((hS.ext (undrew hW)).box 2 rfl) Tryd.underlying31 rfl (by kernel_rfl) (hK _ _ rfl (Below.refl _ _))
                    · rw [want_some rfl rfl rfl (show b__.eval (.tmp 59) = .bool true from (hpre ⟨3, _⟩ (Array.mem_of_getElem? (i := 0) rfl) rfl _ _ rfl rfl))] at hwant; cases hwant
                  case r10 =>
                    refine trule fun b__ w hW hold hpre => ⟨fun hwant K hK => ?_, fun hwant => ?_⟩
                    · clear hwant
                      have e64 : b__.eval (.tmp 64) = .pointer (some ⟨q, 0, none⟩) := hpre ⟨8, _⟩ (Array.mem_of_getElem? (i := 0) rfl) rfl _ _ rfl rfl
                      have e65 : b__.eval (.tmp 65) = .agg #[u] := hpre ⟨9, _⟩ (Array.mem_of_getElem? (i := 1) rfl) rfl _ _ rfl rfl
                      exact opw_call rfl (by kernel_rfl) (by simp only [List.map_cons, List.map_nil, e64, e65]) (hclos_any (kh _ _ (kc.out _ _ (hS.ext (undrew hW)).ro).1) (kt _ _ (kc.out _ _ (hS.ext (undrew hW)).ro).1) HH.out (kc.out _ _ (hS.ext (undrew hW)).ro).2.1) fun v w' h hb => hK v w' (h.imp fun _ _ _ => trivial) hb
                    · rw [want_some rfl rfl rfl (show b__.eval (.tmp 59) = .bool true from (hpre ⟨3, _⟩ (Array.mem_of_getElem? (i := 2) rfl) rfl _ _ rfl rfl))] at hwant; cases hwant
                  case r11 =>
                    refine trule fun b__ w hW hold hpre => ⟨fun hwant K hK => ?_, fun hwant => ?_⟩
                    · clear hwant
                      have e62 : b__.eval (.tmp 62) = .agg #[.slice Ay my cy] := hpre ⟨6, _⟩ (Array.mem_of_getElem? (i := 0) rfl) rfl _ _ rfl rfl
                      have e66 : (fun (v : Value) (w : World) => IsSet w (fun _ => True) v (closM L N0)) (b__.eval (.tmp 66)) w := hpre ⟨10, _⟩ (Array.mem_of_getElem? (i := 1) rfl) rfl _ _ rfl rfl
                      exact opw_call rfl (by kernel_rfl) (by simp only [List.map_cons, List.map_nil, e62]) (within_any _ _ ry (closM L N0) _ _ _ (kc.out _ _ (hS.ext (undrew hW)).ro).2.2.1 e66) fun v w' h hb => hK v w' (h.trans (by rw [HB2.out])) hb
                    · rw [want_some rfl rfl rfl (show b__.eval (.tmp 59) = .bool true from (hpre ⟨3, _⟩ (Array.mem_of_getElem? (i := 3) rfl) rfl _ _ rfl rfl))] at hwant; cases hwant
                  case r12 =>
                    refine trule fun b__ w hW hold hpre => ⟨fun hwant K hK => ?_, fun hwant => ?_⟩
                    · clear hwant
                      have e67 : b__.eval (.tmp 67) = .bool b2 := hpre ⟨11, _⟩ (Array.mem_of_getElem? (i := 0) rfl) rfl _ _ rfl rfl
                      exact opw_un rfl e67 rfl (hK _ _ rfl (Below.refl _ _))
                    · rw [want_some rfl rfl rfl (show b__.eval (.tmp 59) = .bool true from (hpre ⟨3, _⟩ (Array.mem_of_getElem? (i := 1) rfl) rfl _ _ rfl rfl))] at hwant; cases hwant
                  case r13 =>
                    refine trule fun b__ w hW hold hpre => ⟨fun hwant K hK => ?_, fun hwant => ?_⟩
                    · clear hwant
                      have e59 : b__.eval (.tmp 59) = .bool true := hpre ⟨3, _⟩ (Array.mem_of_getElem? (i := 0) rfl) rfl _ _ rfl rfl
                      have e68 : b__.eval (.tmp 68) = .bool (!b2) := hpre ⟨12, _⟩ (Array.mem_of_getElem? (i := 1) rfl) rfl _ _ rfl rfl
                      exact opw_pick rfl e59 e68 (hK _ _ rfl (Below.refl _ _))
                    · rw [want_none rfl] at hwant; cases hwant
                  case post =>
                    intro b__ wz hW hdf hsz hold hT
                    have e56 : b__.eval (.tmp 56) = .pointer (some ⟨g9, 0, none⟩) := hT 0 _ 56 rfl rfl
                    have e57 : b__.eval (.tmp 57) = .bool false := hT 1 _ 57 rfl rfl
                    have e58 : b__.eval (.tmp 58) = .bool true := hT 2 _ 58 rfl rfl
                    have e59 : b__.eval (.tmp 59) = .bool true := hT 3 _ 59 rfl rfl
                    have e60 : b__.eval (.tmp 60) = .pointer (some ⟨g9, 1, none⟩) := hT 4 _ 60 rfl rfl
                    have e61 : b__.eval (.tmp 61) = .pointer (some ⟨g9, 1, none⟩) := hT 5 _ 61 rfl rfl
                    have e62 : b__.eval (.tmp 62) = .agg #[.slice Ay my cy] := hT 6 _ 62 rfl rfl
                    have e63 : b__.eval (.tmp 63) = .pointer (some ⟨g1, 1, none⟩) := hT 7 _ 63 rfl rfl
                    have e64 : b__.eval (.tmp 64) = .pointer (some ⟨q, 0, none⟩) := hT 8 _ 64 rfl rfl
                    have e65 : b__.eval (.tmp 65) = .agg #[u] := hT 9 _ 65 rfl rfl
                    have e66 : (fun (v : Value) (w : World) => IsSet w (fun _ => True) v (closM L N0)) (b__.eval (.tmp 66)) wz := hT 10 _ 66 rfl rfl
                    have e67 : b__.eval (.tmp 67) = .bool b2 := hT 11 _ 67 rfl rfl
                    have e68 : b__.eval (.tmp 68) = .bool (!b2) := hT 12 _ 68 rfl rfl
                    have e69 : b__.eval (.tmp 69) = .bool (!b2) := hT 13 _ 69 rfl rfl
                    obtain ⟨vs, hvs, hb⟩ := frame_of hdf hsz hold
                    replace e56 : vs 56 = .pointer (some ⟨g9, 0, none⟩) := (hvs 56).symm.trans e56
                    replace e57 : vs 57 = .bool false := (hvs 57).symm.trans e57
                    replace e58 : vs 58 = .bool true := (hvs 58).symm.trans e58
                    replace e59 : vs 59 = .bool true := (hvs 59).symm.trans e59
                    replace e60 : vs 60 = .pointer (some ⟨g9, 1, none⟩) := (hvs 60).symm.trans e60
                    replace e61 : vs 61 = .pointer (some ⟨g9, 1, none⟩) := (hvs 61).symm.trans e61
                    replace e62 : vs 62 = .agg #[.slice Ay my cy] := (hvs 62).symm.trans e62
                    replace e63 : vs 63 = .pointer (some ⟨g1, 1, none⟩) := (hvs 63).symm.trans e63
                    replace e64 : vs 64 = .pointer (some ⟨q, 0, none⟩) := (hvs 64).symm.trans e64
                    replace e65 : vs 65 = .agg #[u] := (hvs 65).symm.trans e65
                    replace e66 := (hvs 66) ▸ e66
                    replace e67 : vs 67 = .bool b2 := (hvs 67).symm.trans e67
                    replace e68 : vs 68 = .bool (!b2) := (hvs 68).symm.trans e68
                    replace e69 : vs 69 = .bool (!b2) := (hvs 69).symm.trans e69
                    subst hb
                    clear hvs hold hT hdf hsz
                    simp only [setAll, Act.put, List.setIfInBounds_toArray, List.set_cons_zero, List.set_cons_succ, List.getElem_toArray, List.getElem_cons_succ, List.getElem_cons_zero]
                    rw [hb2'] at e69
                    rw [e69]
                    replace hS := hS.ext hW
                    clear hW
                    go_wp2_with (first
                      | ((with_reducible show wpList _ _ _ (⟨some 72, _, _, _, _, _⟩ :: _) _ _); refine st_push hS 1 rfl rfl _ _ _ _ rfl rfl ty_ints kv KN.length (ints KN) (.int .i64 (j : Nat)) #[.int .i64 (j : Nat)] rfl (by kernel_rfl) rfl rfl rfl rfl (by intro u hu; simp at hu; subst hu; rfl) (by omega) (by omega) ?_; clear hS; intro z_ kv' w_ hS; (try simp only [Act.put, Act.eval, List.set_cons_zero, List.set_cons_succ, List.setIfInBounds_toArray, Array.getD_eq_getD_getElem?, List.getElem?_toArray, List.getElem?_cons_succ, List.getElem?_cons_zero, Option.getD_some, Value.cells] at hS)))
                    refine ⟨⟨j + 1, _, by go_num, rfl, hlj, ?_⟩, by simp [intOf]; omega⟩
                    rw [HTN.out.trans (if_pos rfl), show (KN ++ [(j : Int)]).length = KN.length + 1 by simp, show ints (KN ++ [(j : Int)]) = ints KN ++ [.int .i64 (j : Nat)] by simp [ints]]
                    exact (hS.sub (List.sublist_cons_self _ _)).mono (KS.out.and stable_set) fun D w h => ⟨(kc.out _ _ h).1, (kc.out _ _ h).2.1⟩
                · obtain ⟨b2, hb2'⟩ : ∃ b, b = true := ⟨_, rfl⟩
                  rw [← hb2'] at HB2
                  go_wp2_with (first
                    | ((with_reducible show wpList _ _ _ (⟨_, .binOp _ _ _ _ _, _, _, _, _⟩ :: _) _ _); (first | (refine st_lss rfl _ _ _ _ rfl _ _ _ rfl rfl (fun h_ => ?_) (fun h_ => ?_)) | (refine st_leq rfl _ _ _ _ rfl _ _ _ rfl rfl (fun h_ => ?_) (fun h_ => ?_)) | (refine st_gtr rfl _ _ _ _ rfl _ _ _ rfl rfl (fun h_ => ?_) (fun h_ => ?_)) | (refine st_geq rfl _ _ _ _ rfl _ _ _ rfl rfl (fun h_ => ?_) (fun h_ => ?_)) | (refine st_eql rfl _ _ _ _ rfl _ _ _ rfl rfl (fun h_ => ?_) (fun h_ => ?_)) | (refine st_neq rfl _ _ _ _ rfl _ _ _ rfl rfl (fun h_ => ?_) (fun h_ => ?_))) <;> go_prune)
                    | ((with_reducible show wpList _ _ _ (⟨some 55, _, _, _, _, _⟩ :: _) _ _); refine BigFrame.wpList_want rfl fun _ hK => opw_mid (cs := [.bool _, .slice Ay my cy, .slice Am mn cm, .int .i64 rt, .int .i64 ro]) rfl rfl (rng5 c0 c1 c2 c3 c4) Tryd.underlying39 rfl (by kernel_rfl) (hK _ _ ?_))
                    | ((with_reducible show wpList _ _ _ (⟨some 9, _, _, _, _, _⟩ :: _) _ _); refine st_allocz hS rfl _ rfl (by kernel_rfl) #[.bool false, .slice none 0 0, .slice none 0 0, .int .i64 0, .int .i64 0] (by kernel_rfl) ?_; clear hS; intro g9 w_ hS; (try simp only [Act.put, Act.eval, List.set_cons_zero, List.set_cons_succ, List.setIfInBounds_toArray, Array.getD_eq_getD_getElem?, List.getElem?_toArray, List.getElem?_cons_succ, List.getElem?_cons_zero, Option.getD_some, Value.cells] at hS))
                    | ((with_reducible show wpList _ _ _ (⟨_, .store _ _ _, _, _, _, _⟩ :: _) _ _); (first | (refine st_store hS 0 rfl _ _ _ rfl _ _ rfl rfl _ _ rfl (by kernel_rfl) (by kernel_rfl) (by kernel_rfl) ?_) | (refine st_store hS 1 rfl _ _ _ rfl _ _ rfl rfl _ _ rfl (by kernel_rfl) (by kernel_rfl) (by kernel_rfl) ?_) | (refine st_store hS 2 rfl _ _ _ rfl _ _ rfl rfl _ _ rfl (by kernel_rfl) (by kernel_rfl) (by kernel_rfl) ?_) | (refine st_store hS 3 rfl _ _ _ rfl _ _ rfl rfl _ _ rfl (by kernel_rfl) (by kernel_rfl) (by kernel_rfl) ?_) | (refine st_cstore hS 0 rfl _ _ _ rfl _ _ _ rfl rfl rfl (by first | (simp; done) | (simp; omega) | exact of_decide_eq_true (by kernel_rfl)) rfl (by first | rfl | assumption) (by kernel_rfl) ?_) | (refine st_cstore hS 1 rfl _ _ _ rfl _ _ _ rfl rfl rfl (by first | (simp; done) | (simp; omega) | exact of_decide_eq_true (by kernel_rfl)) rfl (by first | rfl | assumption) (by kernel_rfl) ?_) | (refine st_cstore hS 2 rfl _ _ _ rfl _ _ _ rfl rfl rfl (by first | (simp; done) | (simp; omega) | exact of_decide_eq_true (by kernel_rfl)) rfl (by first | rfl | assumption) (by kernel_rfl) ?_) | (refine st_cstore hS 3 rfl _ _ _ rfl _ _ _ rfl rfl rfl (by first | (simp; done) | (simp; omega) | exact of_decide_eq_true (by kernel_rfl)) rfl (by first | rfl | assumption) (by kernel_rfl) ?_)); clear hS; intro w_ hS; (try simp only [Act.put, Act.eval, List.set_cons_zero, List.set_cons_succ, List.setIfInBounds_toArray, Array.getD_eq_getD_getElem?, List.getElem?_toArray, List.getElem?_cons_succ, List.getElem?_cons_zero, Option.getD_some, Value.cells] at hS)))
                  refine wp_region_typed (fun i__ v w => match i__ with
                    | 0 => v = .pointer (some ⟨g9, 0, none⟩)
                    | 1 => v = .bool false
                    | 2 => v = .bool true
                    | 3 => v = .bool true
                    | 4 => v = .pointer (some ⟨g9, 1, none⟩)
                    | 5 => v = .pointer (some ⟨g9, 1, none⟩)
                    | 6 => v = .agg #[.slice Ay my cy]
                    | 7 => v = .pointer (some ⟨g1, 1, none⟩)
                    | 8 => v = .pointer (some ⟨q, 0, none⟩)
                    | 9 => v = .agg #[u]
                    | 10 => IsSet w (fun _ => True) v (closM L N0)
                    | 11 => v = .bool b2
                    | 12 => v = .bool (!b2)
                    | 13 => v = .bool (!b2)
                    | _ => True) (by kernel_rfl) (by kernel_rfl) ?mono ⟨?r0, ?r1, ?r2, ?r3, ?r4, ?r5, ?r6, ?r7, ?r8, ?r9, ?r10, ?r11, ?r12, ?r13, trivial⟩ ?post
                  case mono =>
                    intro i v w w' h hb
                    match i, h with
                    | 0, h => exact h
                    | 1, h => exact h
                    | 2, h => exact h
                    | 3, h => exact h
                    | 4, h => exact h
                    | 5, h => exact h
                    | 6, h => exact h
                    | 7, h => exact h
                    | 8, h => exact h
                    | 9, h => exact h
                    | 10, h => exact h.ext hb
                    | 11, h => exact h
                    | 12, h => exact h
                    | 13, h => exact h
                    | _ + 14, h => trivial
                  case r0 =>
                    refine trule fun b__ w hW hold hpre => ⟨fun hwant K hK => ?_, fun hwant => ?_⟩
                    · clear hwant
                      have e9 : b__.eval (.tmp 9) = .pointer (some ⟨g9, 0, none⟩) := (hold 9 (by kernel_rfl)).trans rfl
                      exact opw_faddr rfl e9 (by kernel_rfl) (hK _ _ rfl (Below.refl _ _))
                    · rw [want_none rfl] at hwant; cases hwant
                  case r1 =>
                    refine trule fun b__ w hW hold hpre => ⟨fun hwant K hK => ?_, fun hwant => ?_⟩
                    · clear hwant
                      have e56 : b__.eval (.tmp 56) = .pointer (some ⟨g9, 0, none⟩) := hpre ⟨0, _⟩ (Array.mem_of_getElem? (i := 0) rfl) rfl _ _ rfl rfl
                      exact opw_cell rfl e56 (by kernel_rfl) (((hS.ext (undrew hW)).box 0 rfl).cell 0) (hK _ _ rfl (Below.refl _ _))
                    · rw [want_none rfl] at hwant; cases hwant
                  case r2 =>
                    refine trule fun b__ w hW hold hpre => ⟨fun hwant K hK => ?_, fun hwant => ?_⟩
                    · clear hwant
                      have e57 : b__.eval (.tmp 57) = .bool false := hpre ⟨1, _⟩ (Array.mem_of_getElem? (i := 0) rfl) rfl _ _ rfl rfl
                      exact opw_un rfl e57 rfl (hK _ _ rfl (Below.refl _ _))
                    · rw [want_none rfl] at hwant; cases hwant
                  case r3 =>
                    refine trule fun b__ w hW hold hpre => ⟨fun hwant K hK => ?_, fun hwant => ?_⟩
                    · clear hwant
                      have e58 : b__.eval (.tmp 58) = .bool true := hpre ⟨2, _⟩ (Array.mem_of_getElem? (i := 0) rfl) rfl _ _ rfl rfl
                      exact opw_move rfl e58 (hK _ _ rfl (Below.refl _ _))
                    · rw [want_none rfl] at hwant; cases hwant
                  case r4 =>
                    refine trule fun b__ w hW hold hpre => ⟨fun hwant K hK => ?_, fun hwant => ?_⟩
                    · clear hwant
                      have e9 : b__.eval (.tmp 9) = .pointer (some ⟨g9, 0, none⟩) := (hold 9 (by kernel_rfl)).trans rfl
                      exact opw_faddr rfl e9 (by kernel_rfl) (hK _ _ rfl (Below.refl _ _))
                    · rw [want_some rfl rfl rfl (show b__.eval (.tmp 59) = .bool true from (hpre ⟨3, _⟩ (Array.mem_of_getElem? (i := 0) rfl) rfl _ _ rfl rfl))] at hwant; cases hwant
                  case r5 =>
                    refine trule fun b__ w hW hold hpre => ⟨fun hwant K hK => ?_, fun hwant => ?_⟩
                    · clear hwant
                      have e60 : b__.eval (.tmp 60) = .pointer (some ⟨g9, 1, none⟩) := hpre ⟨4, _⟩ (Array.mem_of_getElem? (i := 0) rfl) rfl _ _ rfl rfl
                      exact opw_faddr rfl e60 (by kernel_rfl) (hK _ _ rfl (Below.refl _ _))
                    · rw [want_some rfl rfl rfl (show b__.eval (.tmp 59) = .bool true from (hpre ⟨3, _⟩ (Array.mem_of_getElem? (i := 1) rfl) rfl _ _ rfl rfl))] at hwant; cases hwant
                  case r6 =>
                    refine trule fun b__ w hW hold hpre => ⟨fun hwant K hK => ?_, fun hwant => ?_⟩
                    · clear hwant
                      have e61 : b__.eval (.tmp 61) = .pointer (some ⟨g9, 1, none⟩) := hpre ⟨5, _⟩ (Array.mem_of_getElem? (i := 0) rfl) rfl _ _ rfl rfl
                      exact opw_row1 rfl e61 ((hS.ext (undrew hW)).box 0 rfl) rfl Tryd.underlying31 (by kernel_rfl) (by kernel_rfl) (hK _ _ rfl (Below.refl _ _))
                    · rw [want_some rfl rfl rfl (show b__.eval (.tmp 59) = .bool true from (hpre ⟨3, _⟩ (Array.mem_of_getElem? (i := 1) rfl) rfl _ _ rfl rfl))] at hwant; cases hwant
                  case r7 =>
                    refine trule fun b__ w hW hold hpre => ⟨fun hwant K hK => ?_, fun hwant => ?_⟩
                    · clear hwant
                      have e1 : b__.eval (.tmp 1) = .pointer (some ⟨g1, 0, none⟩) := (hold 1 (by kernel_rfl)).trans rfl
                      exact opw_faddr rfl e1 (by kernel_rfl) (hK _ _ rfl (Below.refl _ _))
                    · rw [want_some rfl rfl rfl (show b__.eval (.tmp 59) = .bool true from (hpre ⟨3, _⟩ (Array.mem_of_getElem? (i := 0) rfl) rfl _ _ rfl rfl))] at hwant; cases hwant
                  case r8 =>
                    refine trule fun b__ w hW hold hpre => ⟨fun hwant K hK => ?_, fun hwant => ?_⟩
                    · clear hwant
                      have e63 : b__.eval (.tmp 63) = .pointer (some ⟨g1, 1, none⟩) := hpre ⟨7, _⟩ (Array.mem_of_getElem? (i := 0) rfl) rfl _ _ rfl rfl
                      exact opw_cell rfl e63 (by kernel_rfl) (((hS.ext (undrew hW)).box 3 rfl).cell 1) (hK _ _ rfl (Below.refl _ _))
                    · rw [want_some rfl rfl rfl (show b__.eval (.tmp 59) = .bool true from (hpre ⟨3, _⟩ (Array.mem_of_getElem? (i := 1) rfl) rfl _ _ rfl rfl))] at hwant; cases hwant
                  case r9 =>
                    refine trule fun b__ w hW hold hpre => ⟨fun hwant K hK => ?_, fun hwant => ?_⟩
                    · clear hwant
                      have e3 : b__.eval (.tmp 3) = .pointer (some ⟨g3, 0, none⟩) := (hold 3 (by kernel_rfl)).trans rfl
                      exact opw_row rfl e3 ((hS.ext (undrew hW)).box 2 rfl) Tryd.underlying31 rfl (by kernel_rfl) (hK _ _ rfl (Below.refl _ _))
                    · rw [want_some rfl rfl rfl (show b__.eval (.tmp 59) = .bool true from (hpre ⟨3, _⟩ (Array.mem_of_getElem? (i := 0) rfl) rfl _ _ rfl rfl))] at hwant; cases hwant
                  case r10 =>
                    refine trule fun b__ w hW hold hpre => ⟨fun hwant K hK => ?_, fun hwant => ?_⟩
                    · clear hwant
                      have e64 : b__.eval (.tmp 64) = .pointer (some ⟨q, 0, none⟩) := hpre ⟨8, _⟩ (Array.mem_of_getElem? (i := 0) rfl) rfl _ _ rfl rfl
                      have e65 : b__.eval (.tmp 65) = .agg #[u] := hpre ⟨9, _⟩ (Array.mem_of_getElem? (i := 1) rfl) rfl _ _ rfl rfl
                      exact opw_call rfl (by kernel_rfl) (by simp only [List.map_cons, List.map_nil, e64, e65]) (hclos_any (kh _ _ (kc.out _ _ (hS.ext (undrew hW)).ro).1) (kt _ _ (kc.out _ _ (hS.ext (undrew hW)).ro).1) HH.out (kc.out _ _ (hS.ext (undrew hW)).ro).2.1) fun v w' h hb => hK v w' (h.imp fun _ _ _ => trivial) hb
                    · rw [want_some rfl rfl rfl (show b__.eval (.tmp 59) = .bool true from (hpre ⟨3, _⟩ (Array.mem_of_getElem? (i := 2) rfl) rfl _ _ rfl rfl))] at hwant; cases hwant
                  case r11 =>
                    refine trule fun b__ w hW hold hpre => ⟨fun hwant K hK => ?_, fun hwant => ?_⟩
                    · clear hwant
                      have e62 : b__.eval (.tmp 62) = .agg #[.slice Ay my cy] := hpre ⟨6, _⟩ (Array.mem_of_getElem? (i := 0) rfl) rfl _ _ rfl rfl
                      have e66 : (fun (v : Value) (w : World) => IsSet w (fun _ => True) v (closM L N0)) (b__.eval (.tmp 66)) w := hpre ⟨10, _⟩ (Array.mem_of_getElem? (i := 1) rfl) rfl _ _ rfl rfl
                      exact opw_call rfl (by kernel_rfl) (by simp only [List.map_cons, List.map_nil, e62]) (within_any _ _ ry (closM L N0) _ _ _ (kc.out _ _ (hS.ext (undrew hW)).ro).2.2.1 e66) fun v w' h hb => hK v w' (h.trans (by rw [HB2.out])) hb
                    · rw [want_some rfl rfl rfl (show b__.eval (.tmp 59) = .bool true from (hpre ⟨3, _⟩ (Array.mem_of_getElem? (i := 3) rfl) rfl _ _ rfl rfl))] at hwant; cases hwant
                  case r12 =>
                    refine trule fun b__ w hW hold hpre => ⟨fun hwant K hK => ?_, fun hwant => ?_⟩
                    · clear hwant
                      have e67 : b__.eval (.tmp 67) = .bool b2 := hpre ⟨11, _⟩ (Array.mem_of_getElem? (i := 0) rfl) rfl _ _ rfl rfl
                      exact opw_un rfl e67 rfl (hK _ _ rfl (Below.refl _ _))
                    · rw [want_some rfl rfl rfl (show b__.eval (.tmp 59) = .bool true from (hpre ⟨3, _⟩ (Array.mem_of_getElem? (i := 1) rfl) rfl _ _ rfl rfl))] at hwant; cases hwant
                  case r13 =>
                    refine trule fun b__ w hW hold hpre => ⟨fun hwant K hK => ?_, fun hwant => ?_⟩
                    · clear hwant
                      have e59 : b__.eval (.tmp 59) = .bool true := hpre ⟨3, _⟩ (Array.mem_of_getElem? (i := 0) rfl) rfl _ _ rfl rfl
                      have e68 : b__.eval (.tmp 68) = .bool (!b2) := hpre ⟨12, _⟩ (Array.mem_of_getElem? (i := 1) rfl) rfl _ _ rfl rfl
                      exact opw_pick rfl e59 e68 (hK _ _ rfl (Below.refl _ _))
                    · rw [want_none rfl] at hwant; cases hwant
                  case post =>
                    intro b__ wz hW hdf hsz hold hT
                    have e56 : b__.eval (.tmp 56) = .pointer (some ⟨g9, 0, none⟩) := hT 0 _ 56 rfl rfl
                    have e57 : b__.eval (.tmp 57) = .bool false := hT 1 _ 57 rfl rfl
                    have e58 : b__.eval (.tmp 58) = .bool true := hT 2 _ 58 rfl rfl
                    have e59 : b__.eval (.tmp 59) = .bool true := hT 3 _ 59 rfl rfl
                    have e60 : b__.eval (.tmp 60) = .pointer (some ⟨g9, 1, none⟩) := hT 4 _ 60 rfl rfl
                    have e61 : b__.eval (.tmp 61) = .pointer (some ⟨g9, 1, none⟩) := hT 5 _ 61 rfl rfl
                    have e62 : b__.eval (.tmp 62) = .agg #[.slice Ay my cy] := hT 6 _ 62 rfl rfl
                    have e63 : b__.eval (.tmp 63) = .pointer (some ⟨g1, 1, none⟩) := hT 7 _ 63 rfl rfl
                    have e64 : b__.eval (.tmp 64) = .pointer (some ⟨q, 0, none⟩) := hT 8 _ 64 rfl rfl
                    have e65 : b__.eval (.tmp 65) = .agg #[u] := hT 9 _ 65 rfl rfl
                    have e66 : (fun (v : Value) (w : World) => IsSet w (fun _ => True) v (closM L N0)) (b__.eval (.tmp 66)) wz := hT 10 _ 66 rfl rfl
                    have e67 : b__.eval (.tmp 67) = .bool b2 := hT 11 _ 67 rfl rfl
                    have e68 : b__.eval (.tmp 68) = .bool (!b2) := hT 12 _ 68 rfl rfl
                    have e69 : b__.eval (.tmp 69) = .bool (!b2) := hT 13 _ 69 rfl rfl
                    obtain ⟨vs, hvs, hb⟩ := frame_of hdf hsz hold
                    replace e56 : vs 56 = .pointer (some ⟨g9, 0, none⟩) := (hvs 56).symm.trans e56
                    replace e57 : vs 57 = .bool false := (hvs 57).symm.trans e57
                    replace e58 : vs 58 = .bool true := (hvs 58).symm.trans e58
                    replace e59 : vs 59 = .bool true := (hvs 59).symm.trans e59
                    replace e60 : vs 60 = .pointer (some ⟨g9, 1, none⟩) := (hvs 60).symm.trans e60
                    replace e61 : vs 61 = .pointer (some ⟨g9, 1, none⟩) := (hvs 61).symm.trans e61
                    replace e62 : vs 62 = .agg #[.slice Ay my cy] := (hvs 62).symm.trans e62
                    replace e63 : vs 63 = .pointer (some ⟨g1, 1, none⟩) := (hvs 63).symm.trans e63
                    replace e64 : vs 64 = .pointer (some ⟨q, 0, none⟩) := (hvs 64).symm.trans e64
                    replace e65 : vs 65 = .agg #[u] := (hvs 65).symm.trans e65
                    replace e66 := (hvs 66) ▸ e66
                    replace e67 : vs 67 = .bool b2 := (hvs 67).symm.trans e67
                    replace e68 : vs 68 = .bool (!b2) := (hvs 68).symm.trans e68
                    replace e69 : vs 69 = .bool (!b2) := (hvs 69).symm.trans e69
                    subst hb
                    clear hvs hold hT hdf hsz
                    simp only [setAll, Act.put, List.setIfInBounds_toArray, List.set_cons_zero, List.set_cons_succ, List.getElem_toArray, List.getElem_cons_succ, List.getElem_cons_zero]
                    rw [hb2'] at e69
                    rw [e69]
                    replace hS := hS.ext hW
                    clear hW
                    go_wp2_with fail
                    refine ⟨⟨j + 1, kv, by go_num, rfl, hlj, ?_⟩, by simp [intOf]; omega⟩
                    rw [HTN.out.trans (if_neg (by decide))]
                    exact (hS.sub (List.sublist_cons_self _ _)).mono (KS.out.and stable_set) fun D w h => ⟨(kc.out _ _ h).1, (kc.out _ _ h).2.1⟩
              · skip
                go_wp2_with (first
                  | ((with_reducible show wpList _ _ _ (⟨_, .binOp _ _ _ _ _, _, _, _, _⟩ :: _) _ _); (first | (refine st_lss rfl _ _ _ _ rfl _ _ _ rfl rfl (fun h_ => ?_) (fun h_ => ?_)) | (refine st_leq rfl _ _ _ _ rfl _ _ _ rfl rfl (fun h_ => ?_) (fun h_ => ?_)) | (refine st_gtr rfl _ _ _ _ rfl _ _ _ rfl rfl (fun h_ => ?_) (fun h_ => ?_)) | (refine st_geq rfl _ _ _ _ rfl _ _ _ rfl rfl (fun h_ => ?_) (fun h_ => ?_)) | (refine st_eql rfl _ _ _ _ rfl _ _ _ rfl rfl (fun h_ => ?_) (fun h_ => ?_)) | (refine st_neq rfl _ _ _ _ rfl _ _ _ rfl rfl (fun h_ => ?_) (fun h_ => ?_))) <;> go_prune)
                  | ((with_reducible show wpList _ _ _ (⟨some 55, _, _, _, _, _⟩ :: _) _ _); refine BigFrame.wpList_want rfl fun _ hK => opw_mid (cs := [.bool _, .slice Ay my cy, .slice Am mn cm, .int .i64 rt, .int .i64 ro]) rfl rfl (rng5 c0 c1 c2 c3 c4) Tryd.underlying39 rfl (by kernel_rfl) (hK _ _ ?_))
                  | ((with_reducible show wpList _ _ _ (⟨some 9, _, _, _, _, _⟩ :: _) _ _); refine st_allocz hS rfl _ rfl (by kernel_rfl) #[.bool false, .slice none 0 0, .slice none 0 0, .int .i64 0, .int .i64 0] (by kernel_rfl) ?_; clear hS; intro g9 w_ hS; (try simp only [Act.put, Act.eval, List.set_cons_zero, List.set_cons_succ, List.setIfInBounds_toArray, Array.getD_eq_getD_getElem?, List.getElem?_toArray, List.getElem?_cons_succ, List.getElem?_cons_zero, Option.getD_some, Value.cells] at hS))
                  | ((with_reducible show wpList _ _ _ (⟨_, .store _ _ _, _, _, _, _⟩ :: _) _ _); (first | (refine st_store hS 0 rfl _ _ _ rfl _ _ rfl rfl _ _ rfl (by kernel_rfl) (by kernel_rfl) (by kernel_rfl) ?_) | (refine st_store hS 1 rfl _ _ _ rfl _ _ rfl rfl _ _ rfl (by kernel_rfl) (by kernel_rfl) (by kernel_rfl) ?_) | (refine st_store hS 2 rfl _ _ _ rfl _ _ rfl rfl _ _ rfl (by kernel_rfl) (by kernel_rfl) (by kernel_rfl) ?_) | (refine st_store hS 3 rfl _ _ _ rfl _ _ rfl rfl _ _ rfl (by kernel_rfl) (by kernel_rfl) (by kernel_rfl) ?_) | (refine st_cstore hS 0 rfl _ _ _ rfl _ _ _ rfl rfl rfl (by first | (simp; done) | (simp; omega) | exact of_decide_eq_true (by kernel_rfl)) rfl (by first | rfl | assumption) (by kernel_rfl) ?_) | (refine st_cstore hS 1 rfl _ _ _ rfl _ _ _ rfl rfl rfl (by first | (simp; done) | (simp; omega) | exact of_decide_eq_true (by kernel_rfl)) rfl (by first | rfl | assumption) (by kernel_rfl) ?_) | (refine st_cstore hS 2 rfl _ _ _ rfl _ _ _ rfl rfl rfl (by first | (simp; done) | (simp; omega) | exact of_decide_eq_true (by kernel_rfl)) rfl (by first | rfl | assumption) (by kernel_rfl) ?_) | (refine st_cstore hS 3 rfl _ _ _ rfl _ _ _ rfl rfl rfl (by first | (simp; done) | (simp; omega) | exact of_decide_eq_true (by kernel_rfl)) rfl (by first | rfl | assumption) (by kernel_rfl) ?_)); clear hS; intro w_ hS; (try simp only [Act.put, Act.eval, List.set_cons_zero, List.set_cons_succ, List.setIfInBounds_toArray, Array.getD_eq_getD_getElem?, List.getElem?_toArray, List.getElem?_cons_succ, List.getElem?_cons_zero, Option.getD_some, Value.cells] at hS)))
                refine wp_region_typed (fun i__ v w => match i__ with
                  | 0 => v = .pointer (some ⟨g9, 0, none⟩)
                  | 1 => v = .bool true
                  | 2 => v = .bool false
                  | 3 => v = .bool false
                  | 4 => True
                  | 5 => True
                  | 6 => True
                  | 7 => True
                  | 8 => True
                  | 9 => True
                  | 10 => True
                  | 11 => True
                  | 12 => True
                  | 13 => v = .bool false
                  | _ => True) (by kernel_rfl) (by kernel_rfl) ?mono ⟨?r0, ?r1, ?r2, ?r3, ?r4, ?r5, ?r6, ?r7, ?r8, ?r9, ?r10, ?r11, ?r12, ?r13, trivial⟩ ?post
                case mono =>
                  intro i v w w' h hb
                  match i, h with
                  | 0, h => exact h
                  | 1, h => exact h
                  | 2, h => exact h
                  | 3, h => exact h
                  | 4, h => exact h
                  | 5, h => exact h
                  | 6, h => exact h
                  | 7, h => exact h
                  | 8, h => exact h
                  | 9, h => exact h
                  | 10, h => exact h
                  | 11, h => exact h
                  | 12, h => exact h
                  | 13, h => exact h
                  | _ + 14, h => trivial
                case r0 =>
                  refine trule fun b__ w hW hold hpre => ⟨fun hwant K hK => ?_, fun hwant => ?_⟩
                  · clear hwant
                    have e9 : b__.eval (.tmp 9) = .pointer (some ⟨g9, 0, none⟩) := (hold 9 (by kernel_rfl)).trans rfl
                    exact opw_faddr rfl e9 (by kernel_rfl) (hK _ _ rfl (Below.refl _ _))
                  · rw [want_none rfl] at hwant; cases hwant
                case r1 =>
                  refine trule fun b__ w hW hold hpre => ⟨fun hwant K hK => ?_, fun hwant => ?_⟩
                  · clear hwant
                    have e56 : b__.eval (.tmp 56) = .pointer (some ⟨g9, 0, none⟩) := hpre ⟨0, _⟩ (Array.mem_of_getElem? (i := 0) rfl) rfl _ _ rfl rfl
                    exact opw_cell rfl e56 (by kernel_rfl) (((hS.ext (undrew hW)).box 0 rfl).cell 0) (hK _ _ rfl (Below.refl _ _))
                  · rw [want_none rfl] at hwant; cases hwant
                case r2 =>
                  refine trule fun b__ w hW hold hpre => ⟨fun hwant K hK => ?_, fun hwant => ?_⟩
                  · clear hwant
                    have e57 : b__.eval (.tmp 57) = .bool true := hpre ⟨1, _⟩ (Array.mem_of_getElem? (i := 0) rfl) rfl _ _ rfl rfl
                    exact opw_un rfl e57 rfl (hK _ _ rfl (Below.refl _ _))
                  · rw [want_none rfl] at hwant; cases hwant
                case r3 =>
                  refine trule fun b__ w hW hold hpre => ⟨fun hwant K hK => ?_, fun hwant => ?_⟩
                  · clear hwant
                    have e58 : b__.eval (.tmp 58) = .bool false := hpre ⟨2, _⟩ (Array.mem_of_getElem? (i := 0) rfl) rfl _ _ rfl rfl
                    exact opw_move rfl e58 (hK _ _ rfl (Below.refl _ _))
                  · rw [want_none rfl] at hwant; cases hwant
                case r4 =>
                  refine trule fun b__ w hW hold hpre => ⟨fun hwant K hK => ?_, fun hwant => ?_⟩
                  · rw [want_some rfl rfl rfl (show b__.eval (.tmp 59) = .bool false from hpre ⟨3, _⟩ (Array.mem_of_getElem? (i := 0) rfl) rfl _ _ rfl rfl)] at hwant; cases hwant
                  · exact trivial
                case r5 =>
                  refine trule fun b__ w hW hold hpre => ⟨fun hwant K hK => ?_, fun hwant => ?_⟩
                  · rw [want_some rfl rfl rfl (show b__.eval (.tmp 59) = .bool false from hpre ⟨3, _⟩ (Array.mem_of_getElem? (i := 1) rfl) rfl _ _ rfl rfl)] at hwant; cases hwant
                  · exact trivial
                case r6 =>
                  refine trule fun b__ w hW hold hpre => ⟨fun hwant K hK => ?_, fun hwant => ?_⟩
                  · rw [want_some rfl rfl rfl (show b__.eval (.tmp 59) = .bool false from hpre ⟨3, _⟩ (Array.mem_of_getElem? (i := 1) rfl) rfl _ _ rfl rfl)] at hwant; cases hwant
                  · exact trivial
                case r7 =>
                  refine trule fun b__ w hW hold hpre => ⟨fun hwant K hK => ?_, fun hwant => ?_⟩
                  · rw [want_some rfl rfl rfl (show b__.eval (.tmp 59) = .bool false from hpre ⟨3, _⟩ (Array.mem_of_getElem? (i := 0) rfl) rfl _ _ rfl rfl)] at hwant; cases hwant
                  · exact trivial
                case r8 =>
                  refine trule fun b__ w hW hold hpre => ⟨fun hwant K hK => ?_, fun hwant => ?_⟩
                  · rw [want_some rfl rfl rfl (show b__.eval (.tmp 59) = .bool false from hpre ⟨3, _⟩ (Array.mem_of_getElem? (i := 1) rfl) rfl _ _ rfl rfl)] at hwant; cases hwant
                  · exact trivial
                case r9 =>
                  refine trule fun b__ w hW hold hpre => ⟨fun hwant K hK => ?_, fun hwant => ?_⟩
                  · rw [want_some rfl rfl rfl (show b__.eval (.tmp 59) = .bool false from hpre ⟨3, _⟩ (Array.mem_of_getElem? (i := 0) rfl) rfl _ _ rfl rfl)] at hwant; cases hwant
                  · exact trivial
                case r10 =>
                  refine trule fun b__ w hW hold hpre => ⟨fun hwant K hK => ?_, fun hwant => ?_⟩
                  · rw [want_some rfl rfl rfl (show b__.eval (.tmp 59) = .bool false from hpre ⟨3, _⟩ (Array.mem_of_getElem? (i := 2) rfl) rfl _ _ rfl rfl)] at hwant; cases hwant
                  · exact trivial
                case r11 =>
                  refine trule fun b__ w hW hold hpre => ⟨fun hwant K hK => ?_, fun hwant => ?_⟩
                  · rw [want_some rfl rfl rfl (show b__.eval (.tmp 59) = .bool false from hpre ⟨3, _⟩ (Array.mem_of_getElem? (i := 3) rfl) rfl _ _ rfl rfl)] at hwant; cases hwant
                  · exact trivial
                case r12 =>
                  refine trule fun b__ w hW hold hpre => ⟨fun hwant K hK => ?_, fun hwant => ?_⟩
                  · rw [want_some rfl rfl rfl (show b__.eval (.tmp 59) = .bool false from hpre ⟨3, _⟩ (Array.mem_of_getElem? (i := 1) rfl) rfl _ _ rfl rfl)] at hwant; cases hwant
                  · exact trivial
                case r13 =>
                  refine trule fun b__ w hW hold hpre => ⟨fun hwant K hK => ?_, fun hwant => ?_⟩
                  · clear hwant
                    have e59 : b__.eval (.tmp 59) = .bool false := hpre ⟨3, _⟩ (Array.mem_of_getElem? (i := 0) rfl) rfl _ _ rfl rfl
                    have e68 : (fun (v : Value) (w : World) => True) (b__.eval (.tmp 68)) w := hpre ⟨12, _⟩ (Array.mem_of_getElem? (i := 1) rfl) rfl _ _ rfl rfl
                    exact opw_pick rfl e59 rfl (hK _ _ rfl (Below.refl _ _))
                  · rw [want_none rfl] at hwant; cases hwant
                case post =>
                  intro b__ wz hW hdf hsz hold hT
                  have e56 : b__.eval (.tmp 56) = .pointer (some ⟨g9, 0, none⟩) := hT 0 _ 56 rfl rfl
                  have e57 : b__.eval (.tmp 57) = .bool true := hT 1 _ 57 rfl rfl
                  have e58 : b__.eval (.tmp 58) = .bool false := hT 2 _ 58 rfl rfl
                  have e59 : b__.eval (.tmp 59) = .bool false := hT 3 _ 59 rfl rfl
                  have e69 : b__.eval (.tmp 69) = .bool false := hT 13 _ 69 rfl rfl
                  obtain ⟨vs, hvs, hb⟩ := frame_of hdf hsz hold
                  replace e56 : vs 56 = .pointer (some ⟨g9, 0, none⟩) := (hvs 56).symm.trans e56
                  replace e57 : vs 57 = .bool true := (hvs 57).symm.trans e57
                  replace e58 : vs 58 = .bool false := (hvs 58).symm.trans e58
                  replace e59 : vs 59 = .bool false := (hvs 59).symm.trans e59
                  replace e69 : vs 69 = .bool false := (hvs 69).symm.trans e69
                  subst hb
                  clear hvs hold hT hdf hsz
                  simp only [setAll, Act.put, List.setIfInBounds_toArray, List.set_cons_zero, List.set_cons_succ, List.getElem_toArray, List.getElem_cons_succ, List.getElem_cons_zero]
                  rw [e69]
                  replace hS := hS.ext hW
                  clear hW
                  go_wp2_with fail
                  refine ⟨⟨j + 1, kv, by go_num, rfl, hlj, ?_⟩, by simp [intOf]; omega⟩
                  rw [HTN.out.trans (if_neg (by cases b2 <;> decide))]
                  exact (hS.sub (List.sublist_cons_self _ _)).mono (KS.out.and stable_set) fun D w h => ⟨(kc.out _ _ h).1, (kc.out _ _ h).2.1⟩
            · obtain rfl : rl.length = j := by omega
              go_wp2_with (first | ((with_reducible show wpList _ _ _ (⟨_, .binOp _ _ _ _ _, _, _, _, _⟩ :: _) _ _); (first | (refine st_lss rfl _ _ _ _ rfl _ _ _ rfl rfl (fun h_ => ?_) (fun h_ => ?_)) | (refine st_leq rfl _ _ _ _ rfl _ _ _ rfl rfl (fun h_ => ?_) (fun h_ => ?_)) | (refine st_gtr rfl _ _ _ _ rfl _ _ _ rfl rfl (fun h_ => ?_) (fun h_ => ?_)) | (refine st_geq rfl _ _ _ _ rfl _ _ _ rfl rfl (fun h_ => ?_) (fun h_ => ?_)) | (refine st_eql rfl _ _ _ _ rfl _ _ _ rfl rfl (fun h_ => ?_) (fun h_ => ?_)) | (refine st_neq rfl _ _ _ _ rfl _ _ _ rfl rfl (fun h_ => ?_) (fun h_ => ?_))) <;> go_prune))
              go_ret
              rw [← HU.out]
              exact ⟨_, rfl, (hS.sub (F' := [_]) ((List.nil_sublist _).cons_cons _)).mono (Stable.pure True) fun _ _ _ => trivial⟩
        · go_wp2_with (first | ((with_reducible show wpList _ _ _ (⟨_, .load _ _, _, _, _, _⟩ :: _) _ _); first | (refine st_cell hS 0 rfl _ _ rfl _ _ rfl _ _ rfl (by decide +kernel) _ (by first | assumption | rfl) ?_) | (refine st_cell hS 1 rfl _ _ rfl _ _ rfl _ _ rfl (by decide +kernel) _ (by first | assumption | rfl) ?_) | (refine st_cell hS 2 rfl _ _ rfl _ _ rfl _ _ rfl (by decide +kernel) _ (by first | assumption | rfl) ?_) | (refine st_cell hS 3 rfl _ _ rfl _ _ rfl _ _ rfl (by decide +kernel) _ (by first | assumption | rfl) ?_) | (refine st_cell hS 4 rfl _ _ rfl _ _ rfl _ _ rfl (by decide +kernel) _ (by first | assumption | rfl) ?_) | (refine st_cell hS 5 rfl _ _ rfl _ _ rfl _ _ rfl (by decide +kernel) _ (by first | assumption | rfl) ?_) | (refine st_cell hS 6 rfl _ _ rfl _ _ rfl _ _ rfl (by decide +kernel) _ (by first | assumption | rfl) ?_) | (refine st_cell hS 7 rfl _ _ rfl _ _ rfl _ _ rfl (by decide +kernel) _ (by first | assumption | rfl) ?_)))
          go_loopw [4, 19] (fun mv i wr => ∃ (j : Nat) (mb : Bool) (u : Value) (N : Nat), i = .int .i64 (j : Nat) ∧ mv = .bool mb ∧ j ≤ rl.length ∧ Hid (URnd L ⟨R, some L, st, rl, nl, gl⟩ B N mb j) ∧ St w0 wr [.box g3 31 #[u], .box g1 43 #[.int .i64 R, .pointer (some ⟨q, 0, none⟩), .slice Cs ns cs, .slice Ar rl.length cr, .slice An nl.length cn, .slice Ag gl.length cg]] (fun D w => K D w ∧ IsSet w D (.agg #[u]) N)) (fun _ i _ => rl.length - (intOf i).toNat)
          case atStart => exact ⟨0, false, u, B, rfl, rfl, by omega, Lib.hid ⟨HI.out.1, nofun, fun _ => ⟨rfl, fun r hr => by simp at hr⟩⟩, hS⟩
          case round =>
            clear hS HI
            obtain ⟨j, mb, u, N0, rfl, rfl, hj, HI, hS⟩ := hrel
            by_cases hlj : j < rl.length
            · obtain ⟨b, o2, y, n, rfl, _, hb, c0, c1, c2, c3, c4, hy, hn⟩ := (kr _ _ hS.ro.1).at_ hlj
              obtain ⟨Ay, my, cy, rfl⟩ := hy.shape
              obtain ⟨Am, mn, cm, rfl⟩ := hn.shape
              have HGj := Lib.hid (getD_at dfltR hlj)
              have HTj := Lib.hid (HTG.out _ (List.mem_of_getElem? HGj.out))
              obtain ⟨KC, kc, hS2⟩ : ∃ KC : (Nat → Prop) → World → Prop, Hid (∀ D w, KC D w → K D w ∧ IsSet w D (.agg #[u]) N0 ∧ IsSet w D (.agg #[.slice Ay my cy]) (rl.getD j dfltR).yes ∧ IsSet w D (.agg #[.slice Am mn cm]) (rl.getD j dfltR).no) ∧ St w0 wr [.box g3 31 #[u], .box g1 43 #[.int .i64 R, .pointer (some ⟨q, 0, none⟩), .slice Cs ns cs, .slice (some ⟨b, o2, none⟩) rl.length cr, .slice An nl.length cn, .slice Ag gl.length cg]] KC := ⟨_, Lib.hid fun D w h => ⟨h.1.1, h.1.2, h.2.1, h.2.2⟩, hS.add (D := Free _) (stable_set.and stable_set) ⟨hy, hn⟩ fun _ h _ => h⟩
              clear hS hy hn
              have hS := hS2
              clear hS2
              generalize rl.getD j dfltR = z at *
              obtain ⟨rv, ry, rn, rt, ro⟩ := z
              dsimp only at kc c0 c1 c2 c3 c4
              obtain ⟨b1, hb1⟩ : ∃ b, b = hasB N0 rt := ⟨_, rfl⟩
              have HB1 := Lib.hid hb1
              obtain ⟨b2, hb2⟩ : ∃ b, b = (ry &&& closM L N0 == ry) := ⟨_, rfl⟩
              have HB2 := Lib.hid hb2
              cases rv
              · cases b1
                · cases b2
                  · have HI2 := Lib.hid (HI.out.skip HGj.out (.inr (.inr hb2.symm)))
                    obtain ⟨b2, hb2'⟩ : ∃ b, b = false := ⟨_, rfl⟩
                    rw [← hb2'] at HB2
                    clear hb1 hb2 HI
                    go_wp2_with (first
                      | ((with_reducible show wpList _ _ _ (⟨_, .binOp _ _ _ _ _, _, _, _, _⟩ :: _) _ _); (first | (refine st_lss rfl _ _ _ _ rfl _ _ _ rfl rfl (fun h_ => ?_) (fun h_ => ?_)) | (refine st_leq rfl _ _ _ _ rfl _ _ _ rfl rfl (fun h_ => ?_) (fun h_ => ?_)) | (refine st_gtr rfl _ _ _ _ rfl _ _ _ rfl rfl (fun h_ => ?_) (fun h_ => ?_)) | (refine st_geq rfl _ _ _ _ rfl _ _ _ rfl rfl (fun h_ => ?_) (fun h_ => ?_)) | (refine st_eql rfl _ _ _ _ rfl _ _ _ rfl rfl (fun h_ => ?_) (fun h_ => ?_)) | (refine st_neq rfl _ _ _ _ rfl _ _ _ rfl rfl (fun h_ => ?_) (fun h_ => ?_))) <;> go_prune)
                      | ((with_reducible show wpList _ _ _ (⟨some 22, _, _, _, _, _⟩ :: _) _ _); refine BigFrame.wpList_want rfl fun _ hK => opw_mid (cs := [.bool _, .slice Ay my cy, .slice Am mn cm, .int .i64 rt, .int .i64 ro]) rfl rfl (rng5 c0 c1 c2 c3 c4) Tryd.underlying39 rfl (by kernel_rfl) (hK _ _ ?_))
                      | ((with_reducible show wpList _ _ _ (⟨some 6, _, _, _, _, _⟩ :: _) _ _); refine st_allocz hS rfl _ rfl (by kernel_rfl) #[.bool false, .slice none 0 0, .slice none 0 0, .int .i64 0, .int .i64 0] (by kernel_rfl) ?_; clear hS; intro g6 w_ hS; (try simp only [Act.put, Act.eval, List.set_cons_zero, List.set_cons_succ, List.setIfInBounds_toArray, Array.getD_eq_getD_getElem?, List.getElem?_toArray, List.getElem?_cons_succ, List.getElem?_cons_zero, Option.getD_some, Value.cells] at hS))
                      | ((with_reducible show wpList _ _ _ (⟨_, .store _ _ _, _, _, _, _⟩ :: _) _ _); (first | (refine st_store hS 0 rfl _ _ _ rfl _ _ rfl rfl _ _ rfl (by kernel_rfl) (by kernel_rfl) (by kernel_rfl) ?_) | (refine st_store hS 1 rfl _ _ _ rfl _ _ rfl rfl _ _ rfl (by kernel_rfl) (by kernel_rfl) (by kernel_rfl) ?_) | (refine st_store hS 2 rfl _ _ _ rfl _ _ rfl rfl _ _ rfl (by kernel_rfl) (by kernel_rfl) (by kernel_rfl) ?_) | (refine st_store hS 3 rfl _ _ _ rfl _ _ rfl rfl _ _ rfl (by kernel_rfl) (by kernel_rfl) (by kernel_rfl) ?_) | (refine st_cstore hS 0 rfl _ _ _ rfl _ _ _ rfl rfl rfl (by first | (simp; done) | (simp; omega) | exact of_decide_eq_true (by kernel_rfl)) rfl (by first | rfl | assumption) (by kernel_rfl) ?_) | (refine st_cstore hS 1 rfl _ _ _ rfl _ _ _ rfl rfl rfl (by first | (simp; done) | (simp; omega) | exact of_decide_eq_true (by kernel_rfl)) rfl (by first | rfl | assumption) (by kernel_rfl) ?_) | (refine st_cstore hS 2 rfl _ _ _ rfl _ _ _ rfl rfl rfl (by first | (simp; done) | (simp; omega) | exact of_decide_eq_true (by kernel_rfl)) rfl (by first | rfl | assumption) (by kernel_rfl) ?_) | (refine st_cstore hS 3 rfl _ _ _ rfl _ _ _ rfl rfl rfl (by first | (simp; done) | (simp; omega) | exact of_decide_eq_true (by kernel_rfl)) rfl (by first | rfl | assumption) (by kernel_rfl) ?_)); clear hS; intro w_ hS; (try simp only [Act.put, Act.eval, List.set_cons_zero, List.set_cons_succ, List.setIfInBounds_toArray, Array.getD_eq_getD_getElem?, List.getElem?_toArray, List.getElem?_cons_succ, List.getElem?_cons_zero, Option.getD_some, Value.cells] at hS)))
                    refine wp_region_typed (fun i__ v w => match i__ with
                      | 0 => v = .pointer (some ⟨g6, 0, none⟩)
                      | 1 => v = .bool false
                      | 2 => v = .bool true
                      | 3 => v = .bool true
                      | 4 => v = .agg #[u]
                      | 5 => v = .pointer (some ⟨g6, 3, none⟩)
                      | 6 => v = .int .i64 rt
                      | 7 => v = .bool false
                      | 8 => v = .bool true
                      | 9 => v = .bool true
                      | 10 => v = .bool true
                      | 11 => v = .pointer (some ⟨g6, 1, none⟩)
                      | 12 => v = .pointer (some ⟨g6, 1, none⟩)
                      | 13 => v = .agg #[.slice Ay my cy]
                      | 14 => v = .pointer (some ⟨g1, 1, none⟩)
                      | 15 => v = .pointer (some ⟨q, 0, none⟩)
                      | 16 => v = .agg #[u]
                      | 17 => IsSet w (fun _ => True) v (closM L N0)
                      | 18 => v = .bool b2
                      | 19 => v = .bool b2
                      | _ => True) (by kernel_rfl) (by kernel_rfl) ?mono ⟨?r0, ?r1, ?r2, ?r3, ?r4, ?r5, ?r6, ?r7, ?r8, ?r9, ?r10, ?r11, ?r12, ?r13, ?r14, ?r15, ?r16, ?r17, ?r18, ?r19, trivial⟩ ?post
                    case mono =>
                      intro i v w w' h hb
                      match i, h with
                      | 0, h => exact h
                      | 1, h => exact h
                      | 2, h => exact h
                      | 3, h => exact h
                      | 4, h => exact h
                      | 5, h => exact h
                      | 6, h => exact h
                      | 7, h => exact h
                      | 8, h => exact h
                      | 9, h => exact h
                      | 10, h => exact h
                      | 11, h => exact h
                      | 12, h => exact h
                      | 13, h => exact h
                      | 14, h => exact h
                      | 15, h => exact h
                      | 16, h => exact h
                      | 17, h => exact h.ext hb
                      | 18, h => exact h
                      | 19, h => exact h
                      | _ + 20, h => trivial
                    case r0 =>
                      refine trule fun b__ w hW hold hpre => ⟨fun hwant K hK => ?_, fun hwant => ?_⟩
                      · clear hwant
                        have e6 : b__.eval (.tmp 6) = .pointer (some ⟨g6, 0, none⟩) := (hold 6 (by kernel_rfl)).trans rfl
                        exact opw_faddr rfl e6 (by kernel_rfl) (hK _ _ rfl (Below.refl _ _))
                      · rw [want_none rfl] at hwant; cases hwant
                    case r1 =>
                      refine trule fun b__ w hW hold hpre => ⟨fun hwant K hK => ?_, fun hwant => ?_⟩
                      · clear hwant
                        have e23 : b__.eval (.tmp 23) = .pointer (some ⟨g6, 0, none⟩) := hpre ⟨0, _⟩ (Array.mem_of_getElem? (i := 0) rfl) rfl _ _ rfl rfl
                        exact opw_cell rfl e23 (by kernel_rfl) (((hS.ext (undrew hW)).box 0 rfl).cell 0) (hK _ _ rfl (Below.refl _ _))
                      · rw [want_none rfl] at hwant; cases hwant
                    case r2 =>
                      refine trule fun b__ w hW hold hpre => ⟨fun hwant K hK => ?_, fun hwant => ?_⟩
                      · clear hwant
                        have e24 : b__.eval (.tmp 24) = .bool false := hpre ⟨1, _⟩ (Array.mem_of_getElem? (i := 0) rfl) rfl _ _ rfl rfl
                        exact opw_un rfl e24 rfl (hK _ _ rfl (Below.refl _ _))
                      · rw [want_none rfl] at hwant; cases hwant
                    case r3 =>
                      refine trule fun b__ w hW hold hpre => ⟨fun hwant K hK => ?_, fun hwant => ?_⟩
                      · clear hwant
                        have e25 : b__.eval (.tmp 25) = .bool true := hpre ⟨2, _⟩ (Array.mem_of_getElem? (i := 0) rfl) rfl _ _ rfl rfl
                        exact opw_move rfl e25 (hK _ _ rfl (Below.refl _ _))
                      · rw [want_none rfl] at hwant; cases hwant
                    case r4 =>
                      refine trule fun b__ w hW hold hpre => ⟨fun hwant K hK => ?_, fun hwant => ?_⟩
                      · clear hwant
                        have e3 : b__.eval (.tmp 3) = .pointer (some ⟨g3, 0, none⟩) := (hold 3 (by kernel_rfl)).trans rfl
                        exact opw_row rfl e3 ((hS.ext (undrew hW)).box 1 rfl) Tryd.underlying31 rfl (by kernel_rfl) (hK _ _ rfl (Below.refl _ _))
                      · rw [want_some rfl rfl rfl (show b__.eval (.tmp 26) = .bool true from (hpre ⟨3, _⟩ (Array.mem_of_getElem? (i := 0) rfl) rfl _ _ rfl rfl))] at hwant; cases hwant
                    case r5 =>
                      refine trule fun b__ w hW hold hpre => ⟨fun hwant K hK => ?_, fun hwant => ?_⟩
                      · clear hwant
                        have e6 : b__.eval (.tmp 6) = .pointer (some ⟨g6, 0, none⟩) := (hold 6 (by kernel_rfl)).trans rfl
                        exact opw_faddr rfl e6 (by kernel_rfl) (hK _ _ rfl (Below.refl _ _))
                      · rw [want_some rfl rfl rfl (show b__.eval (.tmp 26) = .bool true from (hpre ⟨3, _⟩ (Array.mem_of_getElem? (i := 0) rfl) rfl _ _ rfl rfl))] at hwant; cases hwant
                    case r6 =>
                      refine trule fun b__ w hW hold hpre => ⟨fun hwant K hK => ?_, fun hwant => ?_⟩
                      · clear hwant
                        have e28 : b__.eval (.tmp 28) = .pointer (some ⟨g6, 3, none⟩) := hpre ⟨5, _⟩ (Array.mem_of_getElem? (i := 0) rfl) rfl _ _ rfl rfl
                        exact opw_cell rfl e28 (by kernel_rfl) (((hS.ext (undrew hW)).box 0 rfl).cell 3) (hK _ _ rfl (Below.refl _ _))
                      · rw [want_some rfl rfl rfl (show b__.eval (.tmp 26) = .bool true from (hpre ⟨3, _⟩ (Array.mem_of_getElem? (i := 1) rfl) rfl _ _ rfl rfl))] at hwant; cases hwant
                    case r7 =>
                      refine trule fun b__ w hW hold hpre => ⟨fun hwant K hK => ?_, fun hwant => ?_⟩
                      · clear hwant
                        have e27 : b__.eval (.tmp 27) = .agg #[u] := hpre ⟨4, _⟩ (Array.mem_of_getElem? (i := 0) rfl) rfl _ _ rfl rfl
                        have e29 : b__.eval (.tmp 29) = .int .i64 rt := hpre ⟨6, _⟩ (Array.mem_of_getElem? (i := 1) rfl) rfl _ _ rfl rfl
                        exact opw_call rfl (by kernel_rfl) (by simp only [List.map_cons, List.map_nil, e27, e29]) (has_any _ N0 rt _ _ (kc.out _ _ (hS.ext (undrew hW)).ro).2.1) fun v w' h hb => hK v w' (h.trans (by rw [← HB1.out])) hb
                      · rw [want_some rfl rfl rfl (show b__.eval (.tmp 26) = .bool true from (hpre ⟨3, _⟩ (Array.mem_of_getElem? (i := 2) rfl) rfl _ _ rfl rfl))] at hwant; cases hwant
                    case r8 =>
                      refine trule fun b__ w hW hold hpre => ⟨fun hwant K hK => ?_, fun hwant => ?_⟩
                      · clear hwant
                        have e30 : b__.eval (.tmp 30) = .bool false := hpre ⟨7, _⟩ (Array.mem_of_getElem? (i := 0) rfl) rfl _ _ rfl rfl
                        exact opw_un rfl e30 rfl (hK _ _ rfl (Below.refl _ _))
                      · rw [want_some rfl rfl rfl (show b__.eval (.tmp 26) = .bool true from (hpre ⟨3, _⟩ (Array.mem_of_getElem? (i := 1) rfl) rfl _ _ rfl rfl))] at hwant; cases hwant
                    case r9 =>
                      refine trule fun b__ w hW hold hpre => ⟨fun hwant K hK => ?_, fun hwant => ?_⟩
                      · clear hwant
                        have e26 : b__.eval (.tmp 26) = .bool true := hpre ⟨3, _⟩ (Array.mem_of_getElem? (i := 0) rfl) rfl _ _ rfl rfl
                        have e31 : b__.eval (.tmp 31) = .bool true := hpre ⟨8, _⟩ (Array.mem_of_getElem? (i := 1) rfl) rfl _ _ rfl rfl
                        exact opw_pick rfl e26 e31 (hK _ _ rfl (Below.refl _ _))
                      · rw [want_none rfl] at hwant; cases hwant
                    case r10 =>
                      refine trule fun b__ w hW hold hpre => ⟨fun hwant K hK => ?_, fun hwant => ?_⟩
                      · clear hwant
                        have e32 : b__.eval (.tmp 32) = .bool true := hpre ⟨9, _⟩ (Array.mem_of_getElem? (i := 0) rfl) rfl _ _ rfl rfl
                        exact opw_move rfl e32 (hK _ _ rfl (Below.refl _ _))
                      · rw [want_none rfl] at hwant; cases hwant
                    case r11 =>
                      refine trule fun b__ w hW hold hpre => ⟨fun hwant K hK => ?_, fun hwant => ?_⟩
                      · clear hwant
                        have e6 : b__.eval (.tmp 6) = .pointer (some ⟨g6, 0, none⟩) := (hold 6 (by kernel_rfl)).trans rfl
                        exact opw_faddr rfl e6 (by kernel_rfl) (hK _ _ rfl (Below.refl _ _))
                      · rw [want_some rfl rfl rfl (show b__.eval (.tmp 33) = .bool true from (hpre ⟨10, _⟩ (Array.mem_of_getElem? (i := 0) rfl) rfl _ _ rfl rfl))] at hwant; cases hwant
                    case r12 =>
                      refine trule fun b__ w hW hold hpre => ⟨fun hwant K hK => ?_, fun hwant => ?_⟩
                      · clear hwant
                        have e34 : b__.eval (.tmp 34) = .pointer (some ⟨g6, 1, none⟩) := hpre ⟨11, _⟩ (Array.mem_of_getElem? (i := 0) rfl) rfl _ _ rfl rfl
                        exact opw_faddr rfl e34 (by kernel_rfl) (hK _ _ rfl (Below.refl _ _))
                      · rw [want_some rfl rfl rfl (show b__.eval (.tmp 33) = .bool true from (hpre ⟨10, _⟩ (Array.mem_of_getElem? (i := 1) rfl) rfl _ _ rfl rfl))] at hwant; cases hwant
                    case r13 =>
                      refine trule fun b__ w hW hold hpre => ⟨fun hwant K hK => ?_, fun hwant => ?_⟩
                      · clear hwant
                        have e35 : b__.eval (.tmp 35) = .pointer (some ⟨g6, 1, none⟩) := hpre ⟨12, _⟩ (Array.mem_of_getElem? (i := 0) rfl) rfl _ _ rfl rfl
                        exact opw_row1 rfl e35 ((hS.ext (undrew hW)).box 0 rfl) rfl Tryd.underlying31 (by kernel_rfl) (by kernel_rfl) (hK _ _ rfl (Below.refl _ _))
                      · rw [want_some rfl rfl rfl (show b__.eval (.tmp 33) = .bool true from (hpre ⟨10, _⟩ (Array.mem_of_getElem? (i := 1) rfl) rfl _ _ rfl rfl))] at hwant; cases hwant
                    case r14 =>
                      refine trule fun b__ w hW hold hpre => ⟨fun hwant K hK => ?_, fun hwant => ?_⟩
                      · clear hwant
                        have e1 : b__.eval (.tmp 1) = .pointer (some ⟨g1, 0, none⟩) := (hold 1 (by kernel_rfl)).trans rfl
                        exact opw_faddr rfl e1 (by kernel_rfl) (hK _ _ rfl (Below.refl _ _))
                      · rw [want_some rfl rfl rfl (show b__.eval (.tmp 33) = .bool true from (hpre ⟨10, _⟩ (Array.mem_of_getElem? (i := 0) rfl) rfl _ _ rfl rfl))] at hwant; cases hwant
                    case r15 =>
                      refine trule fun b__ w hW hold hpre => ⟨fun hwant K hK => ?_, fun hwant => ?_⟩
                      · clear hwant
                        have e37 : b__.eval (.tmp 37) = .pointer (some ⟨g1, 1, none⟩) := hpre ⟨14, _⟩ (Array.mem_of_getElem? (i := 0) rfl) rfl _ _ rfl rfl
                        exact opw_cell rfl e37 (by kernel_rfl) (((hS.ext (undrew hW)).box 2 rfl).cell 1) (hK _ _ rfl (Below.refl _ _))
                      · rw [want_some rfl rfl rfl (show b__.eval (.tmp 33) = .bool true from (hpre ⟨10, _⟩ (Array.mem_of_getElem? (i := 1) rfl) rfl _ _ rfl rfl))] at hwant; cases hwant
                    case r16 =>
                      refine trule fun b__ w hW hold hpre => ⟨fun hwant K hK => ?_, fun hwant => ?_⟩
                      · clear hwant
                        have e3 : b__.eval (.tmp 3) = .pointer (some ⟨g3, 0, none⟩) := (hold 3 (by kernel_rfl)).trans rfl
                        exact opw_row rfl e3 ((hS.ext (undrew hW)).box 1 rfl) Tryd.underlying31 rfl (by kernel_rfl) (hK _ _ rfl (Below.refl _ _))
                      · rw [want_some rfl rfl rfl (show b__.eval (.tmp 33) = .bool true from (hpre ⟨10, _⟩ (Array.mem_of_getElem? (i := 0) rfl) rfl _ _ rfl rfl))] at hwant; cases hwant
                    case r17 =>
                      refine trule fun b__ w hW hold hpre => ⟨fun hwant K hK => ?_, fun hwant => ?_⟩
                      · clear hwant
                        have e38 : b__.eval (.tmp 38) = .pointer (some ⟨q, 0, none⟩) := hpre ⟨15, _⟩ (Array.mem_of_getElem? (i := 0) rfl) rfl _ _ rfl rfl
                        have e39 : b__.eval (.tmp 39) = .agg #[u] := hpre ⟨16, _⟩ (Array.mem_of_getElem? (i := 1) rfl) rfl _ _ rfl rfl
                        exact opw_call rfl (by kernel_rfl) (by simp only [List.map_cons, List.map_nil, e38, e39]) (hclos_any (kh _ _ (kc.out _ _ (hS.ext (undrew hW)).ro).1) (kt _ _ (kc.out _ _ (hS.ext (undrew hW)).ro).1) HH.out (kc.out _ _ (hS.ext (undrew hW)).ro).2.1) fun v w' h hb => hK v w' (h.imp fun _ _ _ => trivial) hb
                      · rw [want_some rfl rfl rfl (show b__.eval (.tmp 33) = .bool true from (hpre ⟨10, _⟩ (Array.mem_of_getElem? (i := 2) rfl) rfl _ _ rfl rfl))] at hwant; cases hwant
                    case r18 =>
                      refine trule fun b__ w hW hold hpre => ⟨fun hwant K hK => ?_, fun hwant => ?_⟩
                      · clear hwant
                        have e36 : b__.eval (.tmp 36) = .agg #[.slice Ay my cy] := hpre ⟨13, _⟩ (Array.mem_of_getElem? (i := 0) rfl) rfl _ _ rfl rfl
                        have e40 : (fun (v : Value) (w : World) => IsSet w (fun _ => True) v (closM L N0)) (b__.eval (.tmp 40)) w := hpre ⟨17, _⟩ (Array.mem_of_getElem? (i := 1) rfl) rfl _ _ rfl rfl
                        exact opw_call rfl (by kernel_rfl) (by simp only [List.map_cons, List.map_nil, e36]) (within_any _ _ ry (closM L N0) _ _ _ (kc.out _ _ (hS.ext (undrew hW)).ro).2.2.1 e40) fun v w' h hb => hK v w' (h.trans (by rw [HB2.out])) hb
                      · rw [want_some rfl rfl rfl (show b__.eval (.tmp 33) = .bool true from (hpre ⟨10, _⟩ (Array.mem_of_getElem? (i := 3) rfl) rfl _ _ rfl rfl))] at hwant; cases hwant
                    case r19 =>
                      refine trule fun b__ w hW hold hpre => ⟨fun hwant K hK => ?_, fun hwant => ?_⟩
                      · clear hwant
                        have e33 : b__.eval (.tmp 33) = .bool true := hpre ⟨10, _⟩ (Array.mem_of_getElem? (i := 0) rfl) rfl _ _ rfl rfl
                        have e41 : b__.eval (.tmp 41) = .bool b2 := hpre ⟨18, _⟩ (Array.mem_of_getElem? (i := 1) rfl) rfl _ _ rfl rfl
                        exact opw_pick rfl e33 e41 (hK _ _ rfl (Below.refl _ _))
                      · rw [want_none rfl] at hwant; cases hwant
                    case post =>
                      intro b__ wz hW hdf hsz hold hT
                      have e23 : b__.eval (.tmp 23) = .pointer (some ⟨g6, 0, none⟩) := hT 0 _ 23 rfl rfl
                      have e24 : b__.eval (.tmp 24) = .bool false := hT 1 _ 24 rfl rfl
                      have e25 : b__.eval (.tmp 25) = .bool true := hT 2 _ 25 rfl rfl
                      have e26 : b__.eval (.tmp 26) = .bool true := hT 3 _ 26 rfl rfl
                      have e27 : b__.eval (.tmp 27) = .agg #[u] := hT 4 _ 27 rfl rfl
                      have e28 : b__.eval (.tmp 28) = .pointer (some ⟨g6, 3, none⟩) := hT 5 _ 28 rfl rfl
                      have e29 : b__.eval (.tmp 29) = .int .i64 rt := hT 6 _ 29 rfl rfl
                      have e30 : b__.eval (.tmp 30) = .bool false := hT 7 _ 30 rfl rfl
                      have e31 : b__.eval (.tmp 31) = .bool true := hT 8 _ 31 rfl rfl
                      have e32 : b__.eval (.tmp 32) = .bool true := hT 9 _ 32 rfl rfl
                      have e33 : b__.eval (.tmp 33) = .bool true := hT 10 _ 33 rfl rfl
                      have e34 : b__.eval (.tmp 34) = .pointer (some ⟨g6, 1, none⟩) := hT 11 _ 34 rfl rfl
                      have e35 : b__.eval (.tmp 35) = .pointer (some ⟨g6, 1, none⟩) := hT 12 _ 35 rfl rfl
                      have e36 : b__.eval (.tmp 36) = .agg #[.slice Ay my cy] := hT 13 _ 36 rfl rfl
                      have e37 : b__.eval (.tmp 37) = .pointer (some ⟨g1, 1, none⟩) := hT 14 _ 37 rfl rfl
                      have e38 : b__.eval (.tmp 38) = .pointer (some ⟨q, 0, none⟩) := hT 15 _ 38 rfl rfl
                      have e39 : b__.eval (.tmp 39) = .agg #[u] := hT 16 _ 39 rfl rfl
                      have e40 : (fun (v : Value) (w : World) => IsSet w (fun _ => True) v (closM L N0)) (b__.eval (.tmp 40)) wz := hT 17 _ 40 rfl rfl
                      have e41 : b__.eval (.tmp 41) = .bool b2 := hT 18 _ 41 rfl rfl
                      have e42 : b__.eval (.tmp 42) = .bool b2 := hT 19 _ 42 rfl rfl
                      obtain ⟨vs, hvs, hb⟩ := frame_of hdf hsz hold
                      replace e23 : vs 23 = .pointer (some ⟨g6, 0, none⟩) := (hvs 23).symm.trans e23
                      replace e24 : vs 24 = .bool false := (hvs 24).symm.trans e24
                      replace e25 : vs 25 = .bool true := (hvs 25).symm.trans e25
                      replace e26 : vs 26 = .bool true := (hvs 26).symm.trans e26
                      replace e27 : vs 27 = .agg #[u] := (hvs 27).symm.trans e27
                      replace e28 : vs 28 = .pointer (some ⟨g6, 3, none⟩) := (hvs 28).symm.trans e28
                      replace e29 : vs 29 = .int .i64 rt := (hvs 29).symm.trans e29
                      replace e30 : vs 30 = .bool false := (hvs 30).symm.trans e30
                      replace e31 : vs 31 = .bool true := (hvs 31).symm.trans e31
                      replace e32 : vs 32 = .bool true := (hvs 32).symm.trans e32
                      replace e33 : vs 33 = .bool true := (hvs 33).symm.trans e33
                      replace e34 : vs 34 = .pointer (some ⟨g6, 1, none⟩) := (hvs 34).symm.trans e34
                      replace e35 : vs 35 = .pointer (some ⟨g6, 1, none⟩) := (hvs 35).symm.trans e35
                      replace e36 : vs 36 = .agg #[.slice Ay my cy] := (hvs 36).symm.trans e36
                      replace e37 : vs 37 = .pointer (some ⟨g1, 1, none⟩) := (hvs 37).symm.trans e37
                      replace e38 : vs 38 = .pointer (some ⟨q, 0, none⟩) := (hvs 38).symm.trans e38
                      replace e39 : vs 39 = .agg #[u] := (hvs 39).symm.trans e39
                      replace e40 := (hvs 40) ▸ e40
                      replace e41 : vs 41 = .bool b2 := (hvs 41).symm.trans e41
                      replace e42 : vs 42 = .bool b2 := (hvs 42).symm.trans e42
                      subst hb
                      clear hvs hold hT hdf hsz
                      simp only [setAll, Act.put, List.setIfInBounds_toArray, List.set_cons_zero, List.set_cons_succ, List.getElem_toArray, List.getElem_cons_succ, List.getElem_cons_zero]
                      rw [hb2'] at e42
                      rw [e42]
                      replace hS := hS.ext hW
                      clear hW
                      go_wp2_with fail
                      exact ⟨⟨j + 1, mb, u, N0, by go_num, rfl, hlj, HI2, (hS.sub (List.sublist_cons_self _ _)).mono (KS.out.and stable_set) fun D w h => ⟨(kc.out _ _ h).1, (kc.out _ _ h).2.1⟩⟩, by simp [intOf]; omega⟩
                  · obtain ⟨t, ht, ht64⟩ := HTj.out
                    dsimp only at ht
                    have HI2 := Lib.hid (HI.out.add HGj.out rfl hb1.symm hb2.symm ht)
                    have HWT : Hid (withN N0 rt = N0 ||| 2 ^ t) := Lib.hid (by rw [ht]; exact withN_nat ht64)
                    obtain ⟨b2, hb2'⟩ : ∃ b, b = true := ⟨_, rfl⟩
                    rw [← hb2'] at HB2
                    clear hb1 hb2 HI ht ht64
                    go_wp2_with (first
                      | ((with_reducible show wpList _ _ _ (⟨_, .binOp _ _ _ _ _, _, _, _, _⟩ :: _) _ _); (first | (refine st_lss rfl _ _ _ _ rfl _ _ _ rfl rfl (fun h_ => ?_) (fun h_ => ?_)) | (refine st_leq rfl _ _ _ _ rfl _ _ _ rfl rfl (fun h_ => ?_) (fun h_ => ?_)) | (refine st_gtr rfl _ _ _ _ rfl _ _ _ rfl rfl (fun h_ => ?_) (fun h_ => ?_)) | (refine st_geq rfl _ _ _ _ rfl _ _ _ rfl rfl (fun h_ => ?_) (fun h_ => ?_)) | (refine st_eql rfl _ _ _ _ rfl _ _ _ rfl rfl (fun h_ => ?_) (fun h_ => ?_)) | (refine st_neq rfl _ _ _ _ rfl _ _ _ rfl rfl (fun h_ => ?_) (fun h_ => ?_))) <;> go_prune)
                      | ((with_reducible show wpList _ _ _ (⟨some 22, _, _, _, _, _⟩ :: _) _ _); refine BigFrame.wpList_want rfl fun _ hK => opw_mid (cs := [.bool _, .slice Ay my cy, .slice Am mn cm, .int .i64 rt, .int .i64 ro]) rfl rfl (rng5 c0 c1 c2 c3 c4) Tryd.underlying39 rfl (by kernel_rfl) (hK _ _ ?_))
                      | ((with_reducible show wpList _ _ _ (⟨some 6, _, _, _, _, _⟩ :: _) _ _); refine st_allocz hS rfl _ rfl (by kernel_rfl) #[.bool false, .slice none 0 0, .slice none 0 0, .int .i64 0, .int .i64 0] (by kernel_rfl) ?_; clear hS; intro g6 w_ hS; (try simp only [Act.put, Act.eval, List.set_cons_zero, List.set_cons_succ, List.setIfInBounds_toArray, Array.getD_eq_getD_getElem?, List.getElem?_toArray, List.getElem?_cons_succ, List.getElem?_cons_zero, Option.getD_some, Value.cells] at hS))
                      | ((with_reducible show wpList _ _ _ (⟨_, .store _ _ _, _, _, _, _⟩ :: _) _ _); (first | (refine st_store hS 0 rfl _ _ _ rfl _ _ rfl rfl _ _ rfl (by kernel_rfl) (by kernel_rfl) (by kernel_rfl) ?_) | (refine st_store hS 1 rfl _ _ _ rfl _ _ rfl rfl _ _ rfl (by kernel_rfl) (by kernel_rfl) (by kernel_rfl) ?_) | (refine st_store hS 2 rfl _ _ _ rfl _ _ rfl rfl _ _ rfl (by kernel_rfl) (by kernel_rfl) (by kernel_rfl) ?_) | (refine st_store hS 3 rfl _ _ _ rfl _ _ rfl rfl _ _ rfl (by kernel_rfl) (by kernel_rfl) (by kernel_rfl) ?_) | (refine st_cstore hS 0 rfl _ _ _ rfl _ _ _ rfl rfl rfl (by first | (simp; done) | (simp; omega) | exact of_decide_eq_true (by kernel_rfl)) rfl (by first | rfl | assumption) (by kernel_rfl) ?_) | (refine st_cstore hS 1 rfl _ _ _ rfl _ _ _ rfl rfl rfl (by first | (simp; done) | (simp; omega) | exact of_decide_eq_true (by kernel_rfl)) rfl (by first | rfl | assumption) (by kernel_rfl) ?_) | (refine st_cstore hS 2 rfl _ _ _ rfl _ _ _ rfl rfl rfl (by first | (simp; done) | (simp; omega) | exact of_decide_eq_true (by kernel_rfl)) rfl (by first | rfl | assumption) (by kernel_rfl) ?_) | (refine st_cstore hS 3 rfl _ _ _ rfl _ _ _ rfl rfl rfl (by first | (simp; done) | (simp; omega) | exact of_decide_eq_true (by kernel_rfl)) rfl (by first | rfl | assumption) (by kernel_rfl) ?_)); clear hS; intro w_ hS; (try simp only [Act.put, Act.eval, List.set_cons_zero, List.set_cons_succ, List.setIfInBounds_toArray, Array.getD_eq_getD_getElem?, List.getElem?_toArray, List.getElem?_cons_succ, List.getElem?_cons_zero, Option.getD_some, Value.cells] at hS)))
                    refine wp_region_typed (fun i__ v w => match i__ with
                      | 0 => v = .pointer (some ⟨g6, 0, none⟩)
                      | 1 => v = .bool false
                      | 2 => v = .bool true
                      | 3 => v = .bool true
                      | 4 => v = .agg #[u]
                      | 5 => v = .pointer (some ⟨g6, 3, none⟩)
                      | 6 => v = .int .i64 rt
                      | 7 => v = .bool false
                      | 8 => v = .bool true
                      | 9 => v = .bool true
                      | 10 => v = .bool true
                      | 11 => v = .pointer (some ⟨g6, 1, none⟩)
                      | 12 => v = .pointer (some ⟨g6, 1, none⟩)
                      | 13 => v = .agg #[.slice Ay my cy]
                      | 14 => v = .pointer (some ⟨g1, 1, none⟩)
                      | 15 => v = .pointer (some ⟨q, 0, none⟩)
                      | 16 => v = .agg #[u]
                      | 17 => IsSet w (fun _ => True) v (closM L N0)
                      | 18 => v = .bool b2
                      | 19 => v = .bool b2
                      | _ => True) (by kernel_rfl) (by kernel_rfl) ?mono ⟨?r0, ?r1, ?r2, ?r3, ?r4, ?r5, ?r6, ?r7, ?r8, ?r9, ?r10, ?r11, ?r12, ?r13, ?r14, ?r15, ?r16, ?r17, ?r18, ?r19, trivial⟩ ?post
                    case mono =>
                      intro i v w w' h hb
                      match i, h with
                      | 0, h => exact h
                      | 1, h => exact h
                      | 2, h => exact h
                      | 3, h => exact h
                      | 4, h => exact h
                      | 5, h => exact h
                      | 6, h => exact h
                      | 7, h => exact h
                      | 8, h => exact h
                      | 9, h => exact h
                      | 10, h => exact h
                      | 11, h => exact h
                      | 12, h => exact h
                      | 13, h => exact h
                      | 14, h => exact h
                      | 15, h => exact h
                      | 16, h => exact h
                      | 17, h => exact h.ext hb
                      | 18, h => exact h
                      | 19, h => exact h
                      | _ + 20, h => trivial
                    case r0 =>
                      refine trule fun b__ w hW hold hpre => ⟨fun hwant K hK => ?_, fun hwant => ?_⟩
                      · clear hwant
                        have e6 : b__.eval (.tmp 6) = .pointer (some ⟨g6, 0, none⟩) := (hold 6 (by kernel_rfl)).trans rfl
                        exact opw_faddr rfl e6 (by kernel_rfl) (hK _ _ rfl (Below.refl _ _))
                      · rw [want_none rfl] at hwant; cases hwant
                    case r1 =>
                      refine trule fun b__ w hW hold hpre => ⟨fun hwant K hK => ?_, fun hwant => ?_⟩
                      · clear hwant
                        have e23 : b__.eval (.tmp 23) = .pointer (some ⟨g6, 0, none⟩) := hpre ⟨0, _⟩ (Array.mem_of_getElem? (i := 0) rfl) rfl _ _ rfl rfl
                        exact opw_cell rfl e23 (by kernel_rfl) (((hS.ext (undrew hW)).box 0 rfl).cell 0) (hK _ _ rfl (Below.refl _ _))
                      · rw [want_none rfl] at hwant; cases hwant
                    case r2 =>
                      refine trule fun b__ w hW hold hpre => ⟨fun hwant K hK => ?_, fun hwant => ?_⟩
                      · clear hwant
                        have e24 : b__.eval (.tmp 24) = .bool false := hpre ⟨1, _⟩ (Array.mem_of_getElem? (i := 0) rfl) rfl _ _ rfl rfl
                        exact opw_un rfl e24 rfl (hK _ _ rfl (Below.refl _ _))
                      · rw [want_none rfl] at hwant; cases hwant
                    case r3 =>
                      refine trule fun b__ w hW hold hpre => ⟨fun hwant K hK => ?_, fun hwant => ?_⟩
                      · clear hwant
                        have e25 : b__.eval (.tmp 25) = .bool true := hpre ⟨2, _⟩ (Array.mem_of_getElem? (i := 0) rfl) rfl _ _ rfl rfl
                        exact opw_move rfl e25 (hK _ _ rfl (Below.refl _ _))
                      · rw [want_none rfl] at hwant; cases hwant
                    case r4 =>
                      refine trule fun b__ w hW hold hpre => ⟨fun hwant K hK => ?_, fun hwant => ?_⟩
                      · clear hwant
                        have e3 : b__.eval (.tmp 3) = .pointer (some ⟨g3, 0, none⟩) := (hold 3 (by kernel_rfl)).trans rfl
                        exact opw_row rfl e3 ((hS.ext (undrew hW)).box 1 rfl) Tryd.underlying31 rfl (by kernel_rfl) (hK _ _ rfl (Below.refl _ _))
                      · rw [want_some rfl rfl rfl (show b__.eval (.tmp 26) = .bool true from (hpre ⟨3, _⟩ (Array.mem_of_getElem? (i := 0) rfl) rfl _ _ rfl rfl))] at hwant; cases hwant
                    case r5 =>
                      refine trule fun b__ w hW hold hpre => ⟨fun hwant K hK => ?_, fun hwant => ?_⟩
                      · clear hwant
                        have e6 : b__.eval (.tmp 6) = .pointer (some ⟨g6, 0, none⟩) := (hold 6 (by kernel_rfl)).trans rfl
                        exact opw_faddr rfl e6 (by kernel_rfl) (hK _ _ rfl (Below.refl _ _))
                      · rw [want_some rfl rfl rfl (show b__.eval (.tmp 26) = .bool true from (hpre ⟨3, _⟩ (Array.mem_of_getElem? (i := 0) rfl) rfl _ _ rfl rfl))] at hwant; cases hwant
                    case r6 =>
                      refine trule fun b__ w hW hold hpre => ⟨fun hwant K hK => ?_, fun hwant => ?_⟩
                      · clear hwant
                        have e28 : b__.eval (.tmp 28) = .pointer (some ⟨g6, 3, none⟩) := hpre ⟨5, _⟩ (Array.mem_of_getElem? (i := 0) rfl) rfl _ _ rfl rfl
                        exact opw_cell rfl e28 (by kernel_rfl) (((hS.ext (undrew hW)).box 0 rfl).cell 3) (hK _ _ rfl (Below.refl _ _))
                      · rw [want_some rfl rfl rfl (show b__.eval (.tmp 26) = .bool true from (hpre ⟨3, _⟩ (Array.mem_of_getElem? (i := 1) rfl) rfl _ _ rfl rfl))] at hwant; cases hwant
                    case r7 =>
                      refine trule fun b__ w hW hold hpre => ⟨fun hwant K hK => ?_, fun hwant => ?_⟩
                      · clear hwant
                        have e27 : b__.eval (.tmp 27) = .agg #[u] := hpre ⟨4, _⟩ (Array.mem_of_getElem? (i := 0) rfl) rfl _ _ rfl rfl
                        have e29 : b__.eval (.tmp 29) = .int .i64 rt := hpre ⟨6, _⟩ (Array.mem_of_getElem? (i := 1) rfl) rfl _ _ rfl rfl
                        exact opw_call rfl (by kernel_rfl) (by simp only [List.map_cons, List.map_nil, e27, e29]) (has_any _ N0 rt _ _ (kc.out _ _ (hS.ext (undrew hW)).ro).2.1) fun v w' h hb => hK v w' (h.trans (by rw [← HB1.out])) hb
                      · rw [want_some rfl rfl rfl (show b__.eval (.tmp 26) = .bool true from (hpre ⟨3, _⟩ (Array.mem_of_getElem? (i := 2) rfl) rfl _ _ rfl rfl))] at hwant; cases hwant
                    case r8 =>
                      refine trule fun b__ w hW hold hpre => ⟨fun hwant K hK => ?_, fun hwant => ?_⟩
                      · clear hwant
                        have e30 : b__.eval (.tmp 30) = .bool false := hpre ⟨7, _⟩ (Array.mem_of_getElem? (i := 0) rfl) rfl _ _ rfl rfl
                        exact opw_un rfl e30 rfl (hK _ _ rfl (Below.refl _ _))
                      · rw [want_some rfl rfl rfl (show b__.eval (.tmp 26) = .bool true from (hpre ⟨3, _⟩ (Array.mem_of_getElem? (i := 1) rfl) rfl _ _ rfl rfl))] at hwant; cases hwant
                    case r9 =>
                      refine trule fun b__ w hW hold hpre => ⟨fun hwant K hK => ?_, fun hwant => ?_⟩
                      · clear hwant
                        have e26 : b__.eval (.tmp 26) = .bool true := hpre ⟨3, _⟩ (Array.mem_of_getElem? (i := 0) rfl) rfl _ _ rfl rfl
                        have e31 : b__.eval (.tmp 31) = .bool true := hpre ⟨8, _⟩ (Array.mem_of_getElem? (i := 1) rfl) rfl _ _ rfl rfl
                        exact opw_pick rfl e26 e31 (hK _ _ rfl (Below.refl _ _))
                      · rw [want_none rfl] at hwant; cases hwant
                    case r10 =>
                      refine trule fun b__ w hW hold hpre => ⟨fun hwant K hK => ?_, fun hwant => ?_⟩
                      · clear hwant
                        have e32 : b__.eval (.tmp 32) = .bool true := hpre ⟨9, _⟩ (Array.mem_of_getElem? (i := 0) rfl) rfl _ _ rfl rfl
                        exact opw_move rfl e32 (hK _ _ rfl (Below.refl _ _))
                      · rw [want_none rfl] at hwant; cases hwant
                    case r11 =>
                      refine trule fun b__ w hW hold hpre => ⟨fun hwant K hK => ?_, fun hwant => ?_⟩
                      · clear hwant
                        have e6 : b__.eval (.tmp 6) = .pointer (some ⟨g6, 0, none⟩) := (hold 6 (by kernel_rfl)).trans rfl
                        exact opw_faddr rfl e6 (by kernel_rfl) (hK _ _ rfl (Below.refl _ _))
                      · rw [want_some rfl rfl rfl (show b__.eval (.tmp 33) = .bool true from (hpre ⟨10, _⟩ (Array.mem_of_getElem? (i := 0) rfl) rfl _ _ rfl rfl))] at hwant; cases hwant
                    case r12 =>
                      refine trule fun b__ w hW hold hpre => ⟨fun hwant K hK => ?_, fun hwant => ?_⟩
                      · clear hwant
                        have e34 : b__.eval (.tmp 34) = .pointer (some ⟨g6, 1, none⟩) := hpre ⟨11, _⟩ (Array.mem_of_getElem? (i := 0) rfl) rfl _ _ rfl rfl
                        exact opw_faddr rfl e34 (by kernel_rfl) (hK _ _ rfl (Below.refl _ _))
                      · rw [want_some rfl rfl rfl (show b__.eval (.tmp 33) = .bool true from (hpre ⟨10, _⟩ (Array.mem_of_getElem? (i := 1) rfl) rfl _ _ rfl rfl))] at hwant; cases hwant
                    case r13 =>
                      refine trule fun b__ w hW hold hpre => ⟨fun hwant K hK => ?_, fun hwant => ?_⟩
                      · clear hwant
                        have e35 : b__.eval (.tmp 35) = .pointer (some ⟨g6, 1, none⟩) := hpre ⟨12, _⟩ (Array.mem_of_getElem? (i := 0) rfl) rfl _ _ rfl rfl
                        exact opw_row1 rfl e35 ((hS.ext (undrew hW)).box 0 rfl) rfl Tryd.underlying31 (by kernel_rfl) (by kernel_rfl) (hK _ _ rfl (Below.refl _ _))
                      · rw [want_some rfl rfl rfl (show b__.eval (.tmp 33) = .bool true from (hpre ⟨10, _⟩ (Array.mem_of_getElem? (i := 1) rfl) rfl _ _ rfl rfl))] at hwant; cases hwant
                    case r14 =>
                      refine trule fun b__ w hW hold hpre => ⟨fun hwant K hK => ?_, fun hwant => ?_⟩
                      · clear hwant
                        have e1 : b__.eval (.tmp 1) = .pointer (some ⟨g1, 0, none⟩) := (hold 1 (by kernel_rfl)).trans rfl
                        exact opw_faddr rfl e1 (by kernel_rfl) (hK _ _ rfl (Below.refl _ _))
                      · rw [want_some rfl rfl rfl (show b__.eval (.tmp 33) = .bool true from (hpre ⟨10, _⟩ (Array.mem_of_getElem? (i := 0) rfl) rfl _ _ rfl rfl))] at hwant; cases hwant
                    case r15 =>
                      refine trule fun b__ w hW hold hpre => ⟨fun hwant K hK => ?_, fun hwant => ?_⟩
                      · clear hwant
                        have e37 : b__.eval (.tmp 37) = .pointer (some ⟨g1, 1, none⟩) := hpre ⟨14, _⟩ (Array.mem_of_getElem? (i := 0) rfl) rfl _ _ rfl rfl
                        exact opw_cell rfl e37 (by kernel_rfl) (((hS.ext (undrew hW)).box 2 rfl).cell 1) (hK _ _ rfl (Below.refl _ _))
                      · rw [want_some rfl rfl rfl (show b__.eval (.tmp 33) = .bool true from (hpre ⟨10, _⟩ (Array.mem_of_getElem? (i := 1) rfl) rfl _ _ rfl rfl))] at hwant; cases hwant
                    case r16 =>
                      refine trule fun b__ w hW hold hpre => ⟨fun hwant K hK => ?_, fun hwant => ?_⟩
                      · clear hwant
                        have e3 : b__.eval (.tmp 3) = .pointer (some ⟨g3, 0, none⟩) := (hold 3 (by kernel_rfl)).trans rfl
                        exact opw_row rfl e3 ((hS.ext (undrew hW)).box 1 rfl) Tryd.underlying31 rfl (by kernel_rfl) (hK _ _ rfl (Below.refl _ _))
                      · rw [want_some rfl rfl rfl (show b__.eval (.tmp 33) = .bool true from (hpre ⟨10, _⟩ (Array.mem_of_getElem? (i := 0) rfl) rfl _ _ rfl rfl))] at hwant; cases hwant
                    case r17 =>
                      refine trule fun b__ w hW hold hpre => ⟨fun hwant K hK => ?_, fun hwant => ?_⟩
                      · clear hwant
                        have e38 : b__.eval (.tmp 38) = .pointer (some ⟨q, 0, none⟩) := hpre ⟨15, _⟩ (Array.mem_of_getElem? (i := 0) rfl) rfl _ _ rfl rfl
                        have e39 : b__.eval (.tmp 39) = .agg #[u] := hpre ⟨16, _⟩ (Array.mem_of_getElem? (i := 1) rfl) rfl _ _ rfl rfl
                        exact opw_call rfl (by kernel_rfl) (by simp only [List.map_cons, List.map_nil, e38, e39]) (hclos_any (kh _ _ (kc.out _ _ (hS.ext (undrew hW)).ro).1) (kt _ _ (kc.out _ _ (hS.ext (undrew hW)).ro).1) HH.out (kc.out _ _ (hS.ext (undrew hW)).ro).2.1) fun v w' h hb => hK v w' (h.imp fun _ _ _ => trivial) hb
                      · rw [want_some rfl rfl rfl (show b__.eval (.tmp 33) = .bool true from (hpre ⟨10, _⟩ (Array.mem_of_getElem? (i := 2) rfl) rfl _ _ rfl rfl))] at hwant; cases hwant
                    case r18 =>
                      refine trule fun b__ w hW hold hpre => ⟨fun hwant K hK => ?_, fun hwant => ?_⟩
                      · clear hwant
                        have e36 : b__.eval (.tmp 36) = .agg #[.slice Ay my cy] := hpre ⟨13, _⟩ (Array.mem_of_getElem? (i := 0) rfl) rfl _ _ rfl rfl
                        have e40 : (fun (v : Value) (w : World) => IsSet w (fun _ => True) v (closM L N0)) (b__.eval (.tmp 40)) w := hpre ⟨17, _⟩ (Array.mem_of_getElem? (i := 1) rfl) rfl _ _ rfl rfl
                        exact opw_call rfl (by kernel_rfl) (by simp only [List.map_cons, List.map_nil, e36]) (within_any _ _ ry (closM L N0) _ _ _ (kc.out _ _ (hS.ext (undrew hW)).ro).2.2.1 e40) fun v w' h hb => hK v w' (h.trans (by rw [HB2.out])) hb
                      · rw [want_some rfl rfl rfl (show b__.eval (.tmp 33) = .bool true from (hpre ⟨10, _⟩ (Array.mem_of_getElem? (i := 3) rfl) rfl _ _ rfl rfl))] at hwant; cases hwant
                    case r19 =>
                      refine trule fun b__ w hW hold hpre => ⟨fun hwant K hK => ?_, fun hwant => ?_⟩
                      · clear hwant
                        have e33 : b__.eval (.tmp 33) = .bool true := hpre ⟨10, _⟩ (Array.mem_of_getElem? (i := 0) rfl) rfl _ _ rfl rfl
                        have e41 : b__.eval (.tmp 41) = .bool b2 := hpre ⟨18, _⟩ (Array.mem_of_getElem? (i := 1) rfl) rfl _ _ rfl rfl
                        exact opw_pick rfl e33 e41 (hK _ _ rfl (Below.refl _ _))
                      · rw [want_none rfl] at hwant; cases hwant
                    case post =>
                      intro b__ wz hW hdf hsz hold hT
                      have e23 : b__.eval (.tmp 23) = .pointer (some ⟨g6, 0, none⟩) := hT 0 _ 23 rfl rfl
                      have e24 : b__.eval (.tmp 24) = .bool false := hT 1 _ 24 rfl rfl
                      have e25 : b__.eval (.tmp 25) = .bool true := hT 2 _ 25 rfl rfl
                      have e26 : b__.eval (.tmp 26) = .bool true := hT 3 _ 26 rfl rfl
                      have e27 : b__.eval (.tmp 27) = .agg #[u] := hT 4 _ 27 rfl rfl
                      have e28 : b__.eval (.tmp 28) = .pointer (some ⟨g6, 3, none⟩) := hT 5 _ 28 rfl rfl
                      have e29 : b__.eval (.tmp 29) = .int .i64 rt := hT 6 _ 29 rfl rfl
                      have e30 : b__.eval (.tmp 30) = .bool false := hT 7 _ 30 rfl rfl
                      have e31 : b__.eval (.tmp 31) = .bool true := hT 8 _ 31 rfl rfl
                      have e32 : b__.eval (.tmp 32) = .bool true := hT 9 _ 32 rfl rfl
                      have e33 : b__.eval (.tmp 33) = .bool true := hT 10 _ 33 rfl rfl
                      have e34 : b__.eval (.tmp 34) = .pointer (some ⟨g6, 1, none⟩) := hT 11 _ 34 rfl rfl
                      have e35 : b__.eval (.tmp 35) = .pointer (some ⟨g6, 1, none⟩) := hT 12 _ 35 rfl rfl
                      have e36 : b__.eval (.tmp 36) = .agg #[.slice Ay my cy] := hT 13 _ 36 rfl rfl
                      have e37 : b__.eval (.tmp 37) = .pointer (some ⟨g1, 1, none⟩) := hT 14 _ 37 rfl rfl
                      have e38 : b__.eval (.tmp 38) = .pointer (some ⟨q, 0, none⟩) := hT 15 _ 38 rfl rfl
                      have e39 : b__.eval (.tmp 39) = .agg #[u] := hT 16 _ 39 rfl rfl
                      have e40 : (fun (v : Value) (w : World) => IsSet w (fun _ => True) v (closM L N0)) (b__.eval (.tmp 40)) wz := hT 17 _ 40 rfl rfl
                      have e41 : b__.eval (.tmp 41) = .bool b2 := hT 18 _ 41 rfl rfl
                      have e42 : b__.eval (.tmp 42) = .bool b2 := hT 19 _ 42 rfl rfl
                      obtain ⟨vs, hvs, hb⟩ := frame_of hdf hsz hold
                      replace e23 : vs 23 = .pointer (some ⟨g6, 0, none⟩) := (hvs 23).symm.trans e23
                      replace e24 : vs 24 = .bool false := (hvs 24).symm.trans e24
                      replace e25 : vs 25 = .bool true := (hvs 25).symm.trans e25
                      replace e26 : vs 26 = .bool true := (hvs 26).symm.trans e26
                      replace e27 : vs 27 = .agg #[u] := (hvs 27).symm.trans e27
                      replace e28 : vs 28 = .pointer (some ⟨g6, 3, none⟩) := (hvs 28).symm.trans e28
                      replace e29 : vs 29 = .int .i64 rt := (hvs 29).symm.trans e29
                      replace e30 : vs 30 = .bool false := (hvs 30).symm.trans e30
                      replace e31 : vs 31 = .bool true := (hvs 31).symm.trans e31
                      replace e32 : vs 32 = .bool true := (hvs 32).symm.trans e32
                      replace e33 : vs 33 = .bool true := (hvs 33).symm.trans e33
                      replace e34 : vs 34 = .pointer (some ⟨g6, 1, none⟩) := (hvs 34).symm.trans e34
                      replace e35 : vs 35 = .pointer (some ⟨g6, 1, none⟩) := (hvs 35).symm.trans e35
                      replace e36 : vs 36 = .agg #[.slice Ay my cy] := (hvs 36).symm.trans e36
                      replace e37 : vs 37 = .pointer (some ⟨g1, 1, none⟩) := (hvs 37).symm.trans e37
                      replace e38 : vs 38 = .pointer (some ⟨q, 0, none⟩) := (hvs 38).symm.trans e38
                      replace e39 : vs 39 = .agg #[u] := (hvs 39).symm.trans e39
                      replace e40 := (hvs 40) ▸ e40
                      replace e41 : vs 41 = .bool b2 := (hvs 41).symm.trans e41
                      replace e42 : vs 42 = .bool b2 := (hvs 42).symm.trans e42
                      subst hb
                      clear hvs hold hT hdf hsz
                      simp only [setAll, Act.put, List.setIfInBounds_toArray, List.set_cons_zero, List.set_cons_succ, List.getElem_toArray, List.getElem_cons_succ, List.getElem_cons_zero]
                      rw [hb2'] at e42
                      rw [e42]
                      replace hS := hS.ext hW
                      clear hW
                      go_wp2_with (first
                        | ((with_reducible show wpList _ _ _ (⟨_, .load 31 _, _, _, _, _⟩ :: _) _ _); first | (refine st_setl hS 0 rfl _ _ rfl _ _ rfl _ _ rfl _ (by first | rfl | assumption) Tryd.underlying31 rfl (by kernel_rfl) ?_) | (refine st_setl hS 1 rfl _ _ rfl _ _ rfl _ _ rfl _ (by first | rfl | assumption) Tryd.underlying31 rfl (by kernel_rfl) ?_) | (refine st_setl hS 2 rfl _ _ rfl _ _ rfl _ _ rfl _ (by first | rfl | assumption) Tryd.underlying31 rfl (by kernel_rfl) ?_) | (refine st_setl hS 3 rfl _ _ rfl _ _ rfl _ _ rfl _ (by first | rfl | assumption) Tryd.underlying31 rfl (by kernel_rfl) ?_) | (refine st_setl hS 4 rfl _ _ rfl _ _ rfl _ _ rfl _ (by first | rfl | assumption) Tryd.underlying31 rfl (by kernel_rfl) ?_) | (refine st_setl hS 5 rfl _ _ rfl _ _ rfl _ _ rfl _ (by first | rfl | assumption) Tryd.underlying31 rfl (by kernel_rfl) ?_))
                        | ((with_reducible show wpList _ _ _ (⟨_, .load _ _, _, _, _, _⟩ :: _) _ _); first | (refine st_cell hS 0 rfl _ _ rfl _ _ rfl _ _ rfl (by decide +kernel) _ (by first | assumption | rfl) ?_) | (refine st_cell hS 1 rfl _ _ rfl _ _ rfl _ _ rfl (by decide +kernel) _ (by first | assumption | rfl) ?_) | (refine st_cell hS 2 rfl _ _ rfl _ _ rfl _ _ rfl (by decide +kernel) _ (by first | assumption | rfl) ?_) | (refine st_cell hS 3 rfl _ _ rfl _ _ rfl _ _ rfl (by decide +kernel) _ (by first | assumption | rfl) ?_) | (refine st_cell hS 4 rfl _ _ rfl _ _ rfl _ _ rfl (by decide +kernel) _ (by first | assumption | rfl) ?_) | (refine st_cell hS 5 rfl _ _ rfl _ _ rfl _ _ rfl (by decide +kernel) _ (by first | assumption | rfl) ?_) | (refine st_cell hS 6 rfl _ _ rfl _ _ rfl _ _ rfl (by decide +kernel) _ (by first | assumption | rfl) ?_) | (refine st_cell hS 7 rfl _ _ rfl _ _ rfl _ _ rfl (by decide +kernel) _ (by first | assumption | rfl) ?_))
                        | (go_at_call 26; refine (with_any _ N0 rt _ _ (kc.out _ _ hS.ro).2.1).mono ?_; rw [HWT.out]; rintro r_ w_ ⟨_, rfl, hM, hb_⟩; obtain ⟨A4, c4, l4, rfl, -⟩ := hM.parts; replace hS := hS.ret2 hb_ stable_set hM; clear hb_ hM)
                        | ((with_reducible show wpList _ _ _ (⟨_, .store _ _ _, _, _, _, _⟩ :: _) _ _); (first | (refine st_store hS 0 rfl _ _ _ rfl _ _ rfl rfl _ _ rfl (by kernel_rfl) (by kernel_rfl) (by kernel_rfl) ?_) | (refine st_store hS 1 rfl _ _ _ rfl _ _ rfl rfl _ _ rfl (by kernel_rfl) (by kernel_rfl) (by kernel_rfl) ?_) | (refine st_store hS 2 rfl _ _ _ rfl _ _ rfl rfl _ _ rfl (by kernel_rfl) (by kernel_rfl) (by kernel_rfl) ?_) | (refine st_store hS 3 rfl _ _ _ rfl _ _ rfl rfl _ _ rfl (by kernel_rfl) (by kernel_rfl) (by kernel_rfl) ?_) | (refine st_cstore hS 0 rfl _ _ _ rfl _ _ _ rfl rfl rfl (by first | (simp; done) | (simp; omega) | exact of_decide_eq_true (by kernel_rfl)) rfl (by first | rfl | assumption) (by kernel_rfl) ?_) | (refine st_cstore hS 1 rfl _ _ _ rfl _ _ _ rfl rfl rfl (by first | (simp; done) | (simp; omega) | exact of_decide_eq_true (by kernel_rfl)) rfl (by first | rfl | assumption) (by kernel_rfl) ?_) | (refine st_cstore hS 2 rfl _ _ _ rfl _ _ _ rfl rfl rfl (by first | (simp; done) | (simp; omega) | exact of_decide_eq_true (by kernel_rfl)) rfl (by first | rfl | assumption) (by kernel_rfl) ?_) | (refine st_cstore hS 3 rfl _ _ _ rfl _ _ _ rfl rfl rfl (by first | (simp; done) | (simp; omega) | exact of_decide_eq_true (by kernel_rfl)) rfl (by first | rfl | assumption) (by kernel_rfl) ?_)); clear hS; intro w_ hS; (try simp only [Act.put, Act.eval, List.set_cons_zero, List.set_cons_succ, List.setIfInBounds_toArray, Array.getD_eq_getD_getElem?, List.getElem?_toArray, List.getElem?_cons_succ, List.getElem?_cons_zero, Option.getD_some, Value.cells] at hS)))
                      exact ⟨⟨j + 1, true, _, N0 ||| 2 ^ t, by go_num, rfl, hlj, HI2, (hS.sub (List.sublist_cons_self _ _)).mono (KS.out.and stable_set) fun D w h => ⟨(kc.out _ _ h.1).1, h.2⟩⟩, by simp [intOf]; omega⟩
                · have HI2 := Lib.hid (HI.out.skip HGj.out (.inr (.inl hb1.symm)))
                  clear hb1 hb2 HI
                  go_wp2_with (first
                    | ((with_reducible show wpList _ _ _ (⟨_, .binOp _ _ _ _ _, _, _, _, _⟩ :: _) _ _); (first | (refine st_lss rfl _ _ _ _ rfl _ _ _ rfl rfl (fun h_ => ?_) (fun h_ => ?_)) | (refine st_leq rfl _ _ _ _ rfl _ _ _ rfl rfl (fun h_ => ?_) (fun h_ => ?_)) | (refine st_gtr rfl _ _ _ _ rfl _ _ _ rfl rfl (fun h_ => ?_) (fun h_ => ?_)) | (refine st_geq rfl _ _ _ _ rfl _ _ _ rfl rfl (fun h_ => ?_) (fun h_ => ?_)) | (refine st_eql rfl _ _ _ _ rfl _ _ _ rfl rfl (fun h_ => ?_) (fun h_ => ?_)) | (refine st_neq rfl _ _ _ _ rfl _ _ _ rfl rfl (fun h_ => ?_) (fun h_ => ?_))) <;> go_prune)
                    | ((with_reducible show wpList _ _ _ (⟨some 22, _, _, _, _, _⟩ :: _) _ _); refine BigFrame.wpList_want rfl fun _ hK => opw_mid (cs := [.bool _, .slice Ay my cy, .slice Am mn cm, .int .i64 rt, .int .i64 ro]) rfl rfl (rng5 c0 c1 c2 c3 c4) Tryd.underlying39 rfl (by kernel_rfl) (hK _ _ ?_))
                    | ((with_reducible show wpList _ _ _ (⟨some 6, _, _, _, _, _⟩ :: _) _ _); refine st_allocz hS rfl _ rfl (by kernel_rfl) #[.bool false, .slice none 0 0, .slice none 0 0, .int .i64 0, .int .i64 0] (by kernel_rfl) ?_; clear hS; intro g6 w_ hS; (try simp only [Act.put, Act.eval, List.set_cons_zero, List.set_cons_succ, List.setIfInBounds_toArray, Array.getD_eq_getD_getElem?, List.getElem?_toArray, List.getElem?_cons_succ, List.getElem?_cons_zero, Option.getD_some, Value.cells] at hS))
                    | ((with_reducible show wpList _ _ _ (⟨_, .store _ _ _, _, _, _, _⟩ :: _) _ _); (first | (refine st_store hS 0 rfl _ _ _ rfl _ _ rfl rfl _ _ rfl (by kernel_rfl) (by kernel_rfl) (by kernel_rfl) ?_) | (refine st_store hS 1 rfl _ _ _ rfl _ _ rfl rfl _ _ rfl (by kernel_rfl) (by kernel_rfl) (by kernel_rfl) ?_) | (refine st_store hS 2 rfl _ _ _ rfl _ _ rfl rfl _ _ rfl (by kernel_rfl) (by kernel_rfl) (by kernel_rfl) ?_) | (refine st_store hS 3 rfl _ _ _ rfl _ _ rfl rfl _ _ rfl (by kernel_rfl) (by kernel_rfl) (by kernel_rfl) ?_) | (refine st_cstore hS 0 rfl _ _ _ rfl _ _ _ rfl rfl rfl (by first | (simp; done) | (simp; omega) | exact of_decide_eq_true (by kernel_rfl)) rfl (by first | rfl | assumption) (by kernel_rfl) ?_) | (refine st_cstore hS 1 rfl _ _ _ rfl _ _ _ rfl rfl rfl (by first | (simp; done) | (simp; omega) | exact of_decide_eq_true (by kernel_rfl)) rfl (by first | rfl | assumption) (by kernel_rfl) ?_) | (refine st_cstore hS 2 rfl _ _ _ rfl _ _ _ rfl rfl rfl (by first | (simp; done) | (simp; omega) | exact of_decide_eq_true (by kernel_rfl)) rfl (by first | rfl | assumption) (by kernel_rfl) ?_) | (refine st_cstore hS 3 rfl _ _ _ rfl _ _ _ rfl rfl rfl (by first | (simp; done) | (simp; omega) | exact of_decide_eq_true (by kernel_rfl)) rfl (by first | rfl | assumption) (by kernel_rfl) ?_)); clear hS; intro w_ hS; (try simp only [Act.put, Act.eval, List.set_cons_zero, List.set_cons_succ, List.setIfInBounds_toArray, Array.getD_eq_getD_getElem?, List.getElem?_toArray, List.getElem?_cons_succ, List.getElem?_cons_zero, Option.getD_some, Value.cells] at hS)))
                  refine wp_region_typed (fun i__ v w => match i__ with
                    | 0 => v = .pointer (some ⟨g6, 0, none⟩)
                    | 1 => v = .bool false
                    | 2 => v = .bool true
                    | 3 => v = .bool true
                    | 4 => v = .agg #[u]
                    | 5 => v = .pointer (some ⟨g6, 3, none⟩)
                    | 6 => v = .int .i64 rt
                    | 7 => v = .bool true
                    | 8 => v = .bool false
                    | 9 => v = .bool false
                    | 10 => v = .bool false
                    | 11 => True
                    | 12 => True
                    | 13 => True
                    | 14 => True
                    | 15 => True
                    | 16 => True
                    | 17 => True
                    | 18 => True
                    | 19 => v = .bool false
                    | _ => True) (by kernel_rfl) (by kernel_rfl) ?mono ⟨?r0, ?r1, ?r2, ?r3, ?r4, ?r5, ?r6, ?r7, ?r8, ?r9, ?r10, ?r11, ?r12, ?r13, ?r14, ?r15, ?r16, ?r17, ?r18, ?r19, trivial⟩ ?post
                  case mono =>
                    intro i v w w' h hb
                    match i, h with
                    | 0, h => exact h
                    | 1, h => exact h
                    | 2, h => exact h
                    | 3, h => exact h
                    | 4, h => exact h
                    | 5, h => exact h
                    | 6, h => exact h
                    | 7, h => exact h
                    | 8, h => exact h
                    | 9, h => exact h
                    | 10, h => exact h
                    | 11, h => exact h
                    | 12, h => exact h
                    | 13, h => exact h
                    | 14, h => exact h
                    | 15, h => exact h
                    | 16, h => exact h
                    | 17, h => exact h
                    | 18, h => exact h
                    | 19, h => exact h
                    | _ + 20, h => trivial
                  case r0 =>
                    refine trule fun b__ w hW hold hpre => ⟨fun hwant K hK => ?_, fun hwant => ?_⟩
                    · clear hwant
                      have e6 : b__.eval (.tmp 6) = .pointer (some ⟨g6, 0, none⟩) := (hold 6 (by kernel_rfl)).trans rfl
                      exact opw_faddr rfl e6 (by kernel_rfl) (hK _ _ rfl (Below.refl _ _))
                    · rw [want_none rfl] at hwant; cases hwant
                  case r1 =>
                    refine trule fun b__ w hW hold hpre => ⟨fun hwant K hK => ?_, fun hwant => ?_⟩
                    · clear hwant
                      have e23 : b__.eval (.tmp 23) = .pointer (some ⟨g6, 0, none⟩) := hpre ⟨0, _⟩ (Array.mem_of_getElem? (i := 0) rfl) rfl _ _ rfl rfl
                      exact opw_cell rfl e23 (by kernel_rfl) (((hS.ext (undrew hW)).box 0 rfl).cell 0) (hK _ _ rfl (Below.refl _ _))
                    · rw [want_none rfl] at hwant; cases hwant
                  case r2 =>
                    refine trule fun b__ w hW hold hpre => ⟨fun hwant K hK => ?_, fun hwant => ?_⟩
                    · clear hwant
                      have e24 : b__.eval (.tmp 24) = .bool false := hpre ⟨1, _⟩ (Array.mem_of_getElem? (i := 0) rfl) rfl _ _ rfl rfl
                      exact opw_un rfl e24 rfl (hK _ _ rfl (Below.refl _ _))
                    · rw [want_none rfl] at hwant; cases hwant
                  case r3 =>
                    refine trule fun b__ w hW hold hpre => ⟨fun hwant K hK => ?_, fun hwant => ?_⟩
                    · clear hwant
                      have e25 : b__.eval (.tmp 25) = .bool true := hpre ⟨2, _⟩ (Array.mem_of_getElem? (i := 0) rfl) rfl _ _ rfl rfl
                      exact opw_move rfl e25 (hK _ _ rfl (Below.refl _ _))
                    · rw [want_none rfl] at hwant; cases hwant
                  case r4 =>
                    refine trule fun b__ w hW hold hpre => ⟨fun hwant K hK => ?_, fun hwant => ?_⟩
                    · clear hwant
                      have e3 : b__.eval (.tmp 3) = .pointer (some ⟨g3, 0, none⟩) := (hold 3 (by kernel_rfl)).trans rfl
                      exact opw_row rfl e3 ((hS.ext (undrew hW)).box 1 rfl) Tryd.underlying31 rfl (by kernel_rfl) (hK _ _ rfl (Below.refl _ _))
                    · rw [want_some rfl rfl rfl (show b__.eval (.tmp 26) = .bool true from (hpre ⟨3, _⟩ (Array.mem_of_getElem? (i := 0) rfl) rfl _ _ rfl rfl))] at hwant; cases hwant
                  case r5 =>
                    refine trule fun b__ w hW hold hpre => ⟨fun hwant K hK => ?_, fun hwant => ?_⟩
                    · clear hwant
                      have e6 : b__.eval (.tmp 6) = .pointer (some ⟨g6, 0, none⟩) := (hold 6 (by kernel_rfl)).trans rfl
                      exact opw_faddr rfl e6 (by kernel_rfl) (hK _ _ rfl (Below.refl _ _))
                    · rw [want_some rfl rfl rfl (show b__.eval (.tmp 26) = .bool true from (hpre ⟨3, _⟩ (Array.mem_of_getElem? (i := 0) rfl) rfl _ _ rfl rfl))] at hwant; cases hwant
                  case r6 =>
                    refine trule fun b__ w hW hold hpre => ⟨fun hwant K hK => ?_, fun hwant => ?_⟩
                    · clear hwant
                      have e28 : b__.eval (.tmp 28) = .pointer (some ⟨g6, 3, none⟩) := hpre ⟨5, _⟩ (Array.mem_of_getElem? (i := 0) rfl) rfl _ _ rfl rfl
                      exact opw_cell rfl e28 (by kernel_rfl) (((hS.ext (undrew hW)).box 0 rfl).cell 3) (hK _ _ rfl (Below.refl _ _))
                    · rw [want_some rfl rfl rfl (show b__.eval (.tmp 26) = .bool true from (hpre ⟨3, _⟩ (Array.mem_of_getElem? (i := 1) rfl) rfl _ _ rfl rfl))] at hwant; cases hwant
                  case r7 =>
                    refine trule fun b__ w hW hold hpre => ⟨fun hwant K hK => ?_, fun hwant => ?_⟩
                    · clear hwant
                      have e27 : b__.eval (.tmp 27) = .agg #[u] := hpre ⟨4, _⟩ (Array.mem_of_getElem? (i := 0) rfl) rfl _ _ rfl rfl
                      have e29 : b__.eval (.tmp 29) = .int .i64 rt := hpre ⟨6, _⟩ (Array.mem_of_getElem? (i := 1) rfl) rfl _ _ rfl rfl
                      exact opw_call rfl (by kernel_rfl) (by simp only [List.map_cons, List.map_nil, e27, e29]) (has_any _ N0 rt _ _ (kc.out _ _ (hS.ext (undrew hW)).ro).2.1) fun v w' h hb => hK v w' (h.trans (by rw [← HB1.out])) hb
                    · rw [want_some rfl rfl rfl (show b__.eval (.tmp 26) = .bool true from (hpre ⟨3, _⟩ (Array.mem_of_getElem? (i := 2) rfl) rfl _ _ rfl rfl))] at hwant; cases hwant
                  case r8 =>
                    refine trule fun b__ w hW hold hpre => ⟨fun hwant K hK => ?_, fun hwant => ?_⟩
                    · clear hwant
                      have e30 : b__.eval (.tmp 30) = .bool true := hpre ⟨7, _⟩ (Array.mem_of_getElem? (i := 0) rfl) rfl _ _ rfl rfl
                      exact opw_un rfl e30 rfl (hK _ _ rfl (Below.refl _ _))
                    · rw [want_some rfl rfl rfl (show b__.eval (.tmp 26) = .bool true from (hpre ⟨3, _⟩ (Array.mem_of_getElem? (i := 1) rfl) rfl _ _ rfl rfl))] at hwant; cases hwant
                  case r9 =>
                    refine trule fun b__ w hW hold hpre => ⟨fun hwant K hK => ?_, fun hwant => ?_⟩
                    · clear hwant
                      have e26 : b__.eval (.tmp 26) = .bool true := hpre ⟨3, _⟩ (Array.mem_of_getElem? (i := 0) rfl) rfl _ _ rfl rfl
                      have e31 : b__.eval (.tmp 31) = .bool false := hpre ⟨8, _⟩ (Array.mem_of_getElem? (i := 1) rfl) rfl _ _ rfl rfl
                      exact opw_pick rfl e26 e31 (hK _ _ rfl (Below.refl _ _))
                    · rw [want_none rfl] at hwant; cases hwant
                  case r10 =>
                    refine trule fun b__ w hW hold hpre => ⟨fun hwant K hK => ?_, fun hwant => ?_⟩
                    · clear hwant
                      have e32 : b__.eval (.tmp 32) = .bool false := hpre ⟨9, _⟩ (Array.mem_of_getElem? (i := 0) rfl) rfl _ _ rfl rfl
                      exact opw_move rfl e32 (hK _ _ rfl (Below.refl _ _))
                    · rw [want_none rfl] at hwant; cases hwant
                  case r11 =>
                    refine trule fun b__ w hW hold hpre => ⟨fun hwant K hK => ?_, fun hwant => ?_⟩
                    · rw [want_some rfl rfl rfl (show b__.eval (.tmp 33) = .bool false from hpre ⟨10, _⟩ (Array.mem_of_getElem? (i := 0) rfl) rfl _ _ rfl rfl)] at hwant; cases hwant
                    · exact trivial
                  case r12 =>
                    refine trule fun b__ w hW hold hpre => ⟨fun hwant K hK => ?_, fun hwant => ?_⟩
                    · rw [want_some rfl rfl rfl (show b__.eval (.tmp 33) = .bool false from hpre ⟨10, _⟩ (Array.mem_of_getElem? (i := 1) rfl) rfl _ _ rfl rfl)] at hwant; cases hwant
                    · exact trivial
                  case r13 =>
                    refine trule fun b__ w hW hold hpre => ⟨fun hwant K hK => ?_, fun hwant => ?_⟩
                    · rw [want_some rfl rfl rfl (show b__.eval (.tmp 33) = .bool false from hpre ⟨10, _⟩ (Array.mem_of_getElem? (i := 1) rfl) rfl _ _ rfl rfl)] at hwant; cases hwant
                    · exact trivial
                  case r14 =>
                    refine trule fun b__ w hW hold hpre => ⟨fun hwant K hK => ?_, fun hwant => ?_⟩
                    · rw [want_some rfl rfl rfl (show b__.eval (.tmp 33) = .bool false from hpre ⟨10, _⟩ (Array.mem_of_getElem? (i := 0) rfl) rfl _ _ rfl rfl)] at hwant; cases hwant
                    · exact trivial
                  case r15 =>
                    refine trule fun b__ w hW hold hpre => ⟨fun hwant K hK => ?_, fun hwant => ?_⟩
                    · rw [want_some rfl rfl rfl (show b__.eval (.tmp 33) = .bool false from hpre ⟨10, _⟩ (Array.mem_of_getElem? (i := 1) rfl) rfl _ _ rfl rfl)] at hwant; cases hwant
                    · exact trivial
                  case r16 =>
                    refine trule fun b__ w hW hold hpre => ⟨fun hwant K hK => ?_, fun hwant => ?_⟩
                    · rw [want_some rfl rfl rfl (show b__.eval (.tmp 33) = .bool false from hpre ⟨10, _⟩ (Array.mem_of_getElem? (i := 0) rfl) rfl _ _ rfl rfl)] at hwant; cases hwant
                    · exact trivial
                  case r17 =>
                    refine trule fun b__ w hW hold hpre => ⟨fun hwant K hK => ?_, fun hwant => ?_⟩
                    · rw [want_some rfl rfl rfl (show b__.eval (.tmp 33) = .bool false from hpre ⟨10, _⟩ (Array.mem_of_getElem? (i := 2) rfl) rfl _ _ rfl rfl)] at hwant; cases hwant
                    · exact trivial
                  case r18 =>
                    refine trule fun b__ w hW hold hpre => ⟨fun hwant K hK => ?_, fun hwant => ?_⟩
                    · rw [want_some rfl rfl rfl (show b__.eval (.tmp 33) = .bool false from hpre ⟨10, _⟩ (Array.mem_of_getElem? (i := 3) rfl) rfl _ _ rfl rfl)] at hwant; cases hwant
                    · exact trivial
                  case r19 =>
                    refine trule fun b__ w hW hold hpre => ⟨fun hwant K hK => ?_, fun hwant => ?_⟩
                    · clear hwant
                      have e33 : b__.eval (.tmp 33) = .bool false := hpre ⟨10, _⟩ (Array.mem_of_getElem? (i := 0) rfl) rfl _ _ rfl rfl
                      have e41 : (fun (v : Value) (w : World) => True) (b__.eval (.tmp 41)) w := hpre ⟨18, _⟩ (Array.mem_of_getElem? (i := 1) rfl) rfl _ _ rfl rfl
                      exact opw_pick rfl e33 rfl (hK _ _ rfl (Below.refl _ _))
                    · rw [want_none rfl] at hwant; cases hwant
                  case post =>
                    intro b__ wz hW hdf hsz hold hT
                    have e23 : b__.eval (.tmp 23) = .pointer (some ⟨g6, 0, none⟩) := hT 0 _ 23 rfl rfl
                    have e24 : b__.eval (.tmp 24) = .bool false := hT 1 _ 24 rfl rfl
                    have e25 : b__.eval (.tmp 25) = .bool true := hT 2 _ 25 rfl rfl
                    have e26 : b__.eval (.tmp 26) = .bool true := hT 3 _ 26 rfl rfl
                    have e27 : b__.eval (.tmp 27) = .agg #[u] := hT 4 _ 27 rfl rfl
                    have e28 : b__.eval (.tmp 28) = .pointer (some ⟨g6, 3, none⟩) := hT 5 _ 28 rfl rfl
                    have e29 : b__.eval (.tmp 29) = .int .i64 rt := hT 6 _ 29 rfl rfl
                    have e30 : b__.eval (.tmp 30) = .bool true := hT 7 _ 30 rfl rfl
                    have e31 : b__.eval (.tmp 31) = .bool false := hT 8 _ 31 rfl rfl
                    have e32 : b__.eval (.tmp 32) = .bool false := hT 9 _ 32 rfl rfl
                    have e33 : b__.eval (.tmp 33) = .bool false := hT 10 _ 33 rfl rfl
                    have e42 : b__.eval (.tmp 42) = .bool false := hT 19 _ 42 rfl rfl
                    obtain ⟨vs, hvs, hb⟩ := frame_of hdf hsz hold
                    replace e23 : vs 23 = .pointer (some ⟨g6, 0, none⟩) := (hvs 23).symm.trans e23
                    replace e24 : vs 24 = .bool false := (hvs 24).symm.trans e24
                    replace e25 : vs 25 = .bool true := (hvs 25).symm.trans e25
                    replace e26 : vs 26 = .bool true := (hvs 26).symm.trans e26
                    replace e27 : vs 27 = .agg #[u] := (hvs 27).symm.trans e27
                    replace e28 : vs 28 = .pointer (some ⟨g6, 3, none⟩) := (hvs 28).symm.trans e28
                    replace e29 : vs 29 = .int .i64 rt := (hvs 29).symm.trans e29
                    replace e30 : vs 30 = .bool true := (hvs 30).symm.trans e30
                    replace e31 : vs 31 = .bool false := (hvs 31).symm.trans e31
                    replace e32 : vs 32 = .bool false := (hvs 32).symm.trans e32
                    replace e33 : vs 33 = .bool false := (hvs 33).symm.trans e33
                    replace e42 : vs 42 = .bool false := (hvs 42).symm.trans e42
                    subst hb
                    clear hvs hold hT hdf hsz
                    simp only [setAll, Act.put, List.setIfInBounds_toArray, List.set_cons_zero, List.set_cons_succ, List.getElem_toArray, List.getElem_cons_succ, List.getElem_cons_zero]
                    rw [e42]
                    replace hS := hS.ext hW
                    clear hW
                    go_wp2_with fail
                    exact ⟨⟨j + 1, mb, u, N0, by go_num, rfl, hlj, HI2, (hS.sub (List.sublist_cons_self _ _)).mono (KS.out.and stable_set) fun D w h => ⟨(kc.out _ _ h).1, (kc.out _ _ h).2.1⟩⟩, by simp [intOf]; omega⟩
              · have HI2 := Lib.hid (HI.out.skip HGj.out (.inl rfl))
                clear hb1 hb2 HI
                go_wp2_with (first
                  | ((with_reducible show wpList _ _ _ (⟨_, .binOp _ _ _ _ _, _, _, _, _⟩ :: _) _ _); (first | (refine st_lss rfl _ _ _ _ rfl _ _ _ rfl rfl (fun h_ => ?_) (fun h_ => ?_)) | (refine st_leq rfl _ _ _ _ rfl _ _ _ rfl rfl (fun h_ => ?_) (fun h_ => ?_)) | (refine st_gtr rfl _ _ _ _ rfl _ _ _ rfl rfl (fun h_ => ?_) (fun h_ => ?_)) | (refine st_geq rfl _ _ _ _ rfl _ _ _ rfl rfl (fun h_ => ?_) (fun h_ => ?_)) | (refine st_eql rfl _ _ _ _ rfl _ _ _ rfl rfl (fun h_ => ?_) (fun h_ => ?_)) | (refine st_neq rfl _ _ _ _ rfl _ _ _ rfl rfl (fun h_ => ?_) (fun h_ => ?_))) <;> go_prune)
                  | ((with_reducible show wpList _ _ _ (⟨some 22, _, _, _, _, _⟩ :: _) _ _); refine BigFrame.wpList_want rfl fun _ hK => opw_mid (cs := [.bool _, .slice Ay my cy, .slice Am mn cm, .int .i64 rt, .int .i64 ro]) rfl rfl (rng5 c0 c1 c2 c3 c4) Tryd.underlying39 rfl (by kernel_rfl) (hK _ _ ?_))
                  | ((with_reducible show wpList _ _ _ (⟨some 6, _, _, _, _, _⟩ :: _) _ _); refine st_allocz hS rfl _ rfl (by kernel_rfl) #[.bool false, .slice none 0 0, .slice none 0 0, .int .i64 0, .int .i64 0] (by kernel_rfl) ?_; clear hS; intro g6 w_ hS; (try simp only [Act.put, Act.eval, List.set_cons_zero, List.set_cons_succ, List.setIfInBounds_toArray, Array.getD_eq_getD_getElem?, List.getElem?_toArray, List.getElem?_cons_succ, List.getElem?_cons_zero, Option.getD_some, Value.cells] at hS))
                  | ((with_reducible show wpList _ _ _ (⟨_, .store _ _ _, _, _, _, _⟩ :: _) _ _); (first | (refine st_store hS 0 rfl _ _ _ rfl _ _ rfl rfl _ _ rfl (by kernel_rfl) (by kernel_rfl) (by kernel_rfl) ?_) | (refine st_store hS 1 rfl _ _ _ rfl _ _ rfl rfl _ _ rfl (by kernel_rfl) (by kernel_rfl) (by kernel_rfl) ?_) | (refine st_store hS 2 rfl _ _ _ rfl _ _ rfl rfl _ _ rfl (by kernel_rfl) (by kernel_rfl) (by kernel_rfl) ?_) | (refine st_store hS 3 rfl _ _ _ rfl _ _ rfl rfl _ _ rfl (by kernel_rfl) (by kernel_rfl) (by kernel_rfl) ?_) | (refine st_cstore hS 0 rfl _ _ _ rfl _ _ _ rfl rfl rfl (by first | (simp; done) | (simp; omega) | exact of_decide_eq_true (by kernel_rfl)) rfl (by first | rfl | assumption) (by kernel_rfl) ?_) | (refine st_cstore hS 1 rfl _ _ _ rfl _ _ _ rfl rfl rfl (by first | (simp; done) | (simp; omega) | exact of_decide_eq_true (by kernel_rfl)) rfl (by first | rfl | assumption) (by kernel_rfl) ?_) | (refine st_cstore hS 2 rfl _ _ _ rfl _ _ _ rfl rfl rfl (by first | (simp; done) | (simp; omega) | exact of_decide_eq_true (by kernel_rfl)) rfl (by first | rfl | assumption) (by kernel_rfl) ?_) | (refine st_cstore hS 3 rfl _ _ _ rfl _ _ _ rfl rfl rfl (by first | (simp; done) | (simp; omega) | exact of_decide_eq_true (by kernel_rfl)) rfl (by first | rfl | assumption) (by kernel_rfl) ?_)); clear hS; intro w_ hS; (try simp only [Act.put, Act.eval, List.set_cons_zero, List.set_cons_succ, List.setIfInBounds_toArray, Array.getD_eq_getD_getElem?, List.getElem?_toArray, List.getElem?_cons_succ, List.getElem?_cons_zero, Option.getD_some, Value.cells] at hS)))
                refine wp_region_typed (fun i__ v w => match i__ with
                  | 0 => v = .pointer (some ⟨g6, 0, none⟩)
                  | 1 => v = .bool true
                  | 2 => v = .bool false
                  | 3 => v = .bool false
                  | 4 => True
                  | 5 => True
                  | 6 => True
                  | 7 => True
                  | 8 => True
                  | 9 => v = .bool false
                  | 10 => v = .bool false
                  | 11 => True
                  | 12 => True
                  | 13 => True
                  | 14 => True
                  | 15 => True
                  | 16 => True
                  | 17 => True
                  | 18 => True
                  | 19 => v = .bool false
                  | _ => True) (by kernel_rfl) (by kernel_rfl) ?mono ⟨?r0, ?r1, ?r2, ?r3, ?r4, ?r5, ?r6, ?r7, ?r8, ?r9, ?r10, ?r11, ?r12, ?r13, ?r14, ?r15, ?r16, ?r17, ?r18, ?r19, trivial⟩ ?post
                case mono =>
                  intro i v w w' h hb
                  match i, h with
                  | 0, h => exact h
                  | 1, h => exact h
                  | 2, h => exact h
                  | 3, h => exact h
                  | 4, h => exact h
                  | 5, h => exact h
                  | 6, h => exact h
                  | 7, h => exact h
                  | 8, h => exact h
                  | 9, h => exact h
                  | 10, h => exact h
                  | 11, h => exact h
                  | 12, h => exact h
                  | 13, h => exact h
                  | 14, h => exact h
                  | 15, h => exact h
                  | 16, h => exact h
                  | 17, h => exact h
                  | 18, h => exact h
                  | 19, h => exact h
                  | _ + 20, h => trivial
                case r0 =>
                  refine trule fun b__ w hW hold hpre => ⟨fun hwant K hK => ?_, fun hwant => ?_⟩
                  · clear hwant
                    have e6 : b__.eval (.tmp 6) = .pointer (some ⟨g6, 0, none⟩) := (hold 6 (by kernel_rfl)).trans rfl
                    exact opw_faddr rfl e6 (by kernel_rfl) (hK _ _ rfl (Below.refl _ _))
                  · rw [want_none rfl] at hwant; cases hwant
                case r1 =>
                  refine trule fun b__ w hW hold hpre => ⟨fun hwant K hK => ?_, fun hwant => ?_⟩
                  · clear hwant
                    have e23 : b__.eval (.tmp 23) = .pointer (some ⟨g6, 0, none⟩) := hpre ⟨0, _⟩ (Array.mem_of_getElem? (i := 0) rfl) rfl _ _ rfl rfl
                    exact opw_cell rfl e23 (by kernel_rfl) (((hS.ext (undrew hW)).box 0 rfl).cell 0) (hK _ _ rfl (Below.refl _ _))
                  · rw [want_none rfl] at hwant; cases hwant
                case r2 =>
                  refine trule fun b__ w hW hold hpre => ⟨fun hwant K hK => ?_, fun hwant => ?_⟩
                  · clear hwant
                    have e24 : b__.eval (.tmp 24) = .bool true := hpre ⟨1, _⟩ (Array.mem_of_getElem? (i := 0) rfl) rfl _ _ rfl rfl
                    exact opw_un rfl e24 rfl (hK _ _ rfl (Below.refl _ _))
                  · rw [want_none rfl] at hwant; cases hwant
                case r3 =>
                  refine trule fun b__ w hW hold hpre => ⟨fun hwant K hK => ?_, fun hwant => ?_⟩
                  · clear hwant
                    have e25 : b__.eval (.tmp 25) = .bool false := hpre ⟨2, _⟩ (Array.mem_of_getElem? (i := 0) rfl) rfl _ _ rfl rfl
                    exact opw_move rfl e25 (hK _ _ rfl (Below.refl _ _))
                  · rw [want_none rfl] at hwant; cases hwant
                case r4 =>
                  refine trule fun b__ w hW hold hpre => ⟨fun hwant K hK => ?_, fun hwant => ?_⟩
                  · rw [want_some rfl rfl rfl (show b__.eval (.tmp 26) = .bool false from hpre ⟨3, _⟩ (Array.mem_of_getElem? (i := 0) rfl) rfl _ _ rfl rfl)] at hwant; cases hwant
                  · exact trivial
                case r5 =>
                  refine trule fun b__ w hW hold hpre => ⟨fun hwant K hK => ?_, fun hwant => ?_⟩
                  · rw [want_some rfl rfl rfl (show b__.eval (.tmp 26) = .bool false from hpre ⟨3, _⟩ (Array.mem_of_getElem? (i := 0) rfl) rfl _ _ rfl rfl)] at hwant; cases hwant
                  · exact trivial
                case r6 =>
                  refine trule fun b__ w hW hold hpre => ⟨fun hwant K hK => ?_, fun hwant => ?_⟩
                  · rw [want_some rfl rfl rfl (show b__.eval (.tmp 26) = .bool false from hpre ⟨3, _⟩ (Array.mem_of_getElem? (i := 1) rfl) rfl _ _ rfl rfl)] at hwant; cases hwant
                  · exact trivial
                case r7 =>
                  refine trule fun b__ w hW hold hpre => ⟨fun hwant K hK => ?_, fun hwant => ?_⟩
                  · rw [want_some rfl rfl rfl (show b__.eval (.tmp 26) = .bool false from hpre ⟨3, _⟩ (Array.mem_of_getElem? (i := 2) rfl) rfl _ _ rfl rfl)] at hwant; cases hwant
                  · exact trivial
                case r8 =>
                  refine trule fun b__ w hW hold hpre => ⟨fun hwant K hK => ?_, fun hwant => ?_⟩
                  · rw [want_some rfl rfl rfl (show b__.eval (.tmp 26) = .bool false from hpre ⟨3, _⟩ (Array.mem_of_getElem? (i := 1) rfl) rfl _ _ rfl rfl)] at hwant; cases hwant
                  · exact trivial
                case r9 =>
                  refine trule fun b__ w hW hold hpre => ⟨fun hwant K hK => ?_, fun hwant => ?_⟩
                  · clear hwant
                    have e26 : b__.eval (.tmp 26) = .bool false := hpre ⟨3, _⟩ (Array.mem_of_getElem? (i := 0) rfl) rfl _ _ rfl rfl
                    have e31 : (fun (v : Value) (w : World) => True) (b__.eval (.tmp 31)) w := hpre ⟨8, _⟩ (Array.mem_of_getElem? (i := 1) rfl) rfl _ _ rfl rfl
                    exact opw_pick rfl e26 rfl (hK _ _ rfl (Below.refl _ _))
                  · rw [want_none rfl] at hwant; cases hwant
                case r10 =>
                  refine trule fun b__ w hW hold hpre => ⟨fun hwant K hK => ?_, fun hwant => ?_⟩
                  · clear hwant
                    have e32 : b__.eval (.tmp 32) = .bool false := hpre ⟨9, _⟩ (Array.mem_of_getElem? (i := 0) rfl) rfl _ _ rfl rfl
                    exact opw_move rfl e32 (hK _ _ rfl (Below.refl _ _))
                  · rw [want_none rfl] at hwant; cases hwant
                case r11 =>
                  refine trule fun b__ w hW hold hpre => ⟨fun hwant K hK => ?_, fun hwant => ?_⟩
                  · rw [want_some rfl rfl rfl (show b__.eval (.tmp 33) = .bool false from hpre ⟨10, _⟩ (Array.mem_of_getElem? (i := 0) rfl) rfl _ _ rfl rfl)] at hwant; cases hwant
                  · exact trivial
                case r12 =>
                  refine trule fun b__ w hW hold hpre => ⟨fun hwant K hK => ?_, fun hwant => ?_⟩
                  · rw [want_some rfl rfl rfl (show b__.eval (.tmp 33) = .bool false from hpre ⟨10, _⟩ (Array.mem_of_getElem? (i := 1) rfl) rfl _ _ rfl rfl)] at hwant; cases hwant
                  · exact trivial
                case r13 =>
                  refine trule fun b__ w hW hold hpre => ⟨fun hwant K hK => ?_, fun hwant => ?_⟩
                  · rw [want_some rfl rfl rfl (show b__.eval (.tmp 33) = .bool false from hpre ⟨10, _⟩ (Array.mem_of_getElem? (i := 1) rfl) rfl _ _ rfl rfl)] at hwant; cases hwant
                  · exact trivial
                case r14 =>
                  refine trule fun b__ w hW hold hpre => ⟨fun hwant K hK => ?_, fun hwant => ?_⟩
                  · rw [want_some rfl rfl rfl (show b__.eval (.tmp 33) = .bool false from hpre ⟨10, _⟩ (Array.mem_of_getElem? (i := 0) rfl) rfl _ _ rfl rfl)] at hwant; cases hwant
                  · exact trivial
                case r15 =>
                  refine trule fun b__ w hW hold hpre => ⟨fun hwant K hK => ?_, fun hwant => ?_⟩
                  · rw [want_some rfl rfl rfl (show b__.eval (.tmp 33) = .bool false from hpre ⟨10, _⟩ (Array.mem_of_getElem? (i := 1) rfl) rfl _ _ rfl rfl)] at hwant; cases hwant
                  · exact trivial
                case r16 =>
                  refine trule fun b__ w hW hold hpre => ⟨fun hwant K hK => ?_, fun hwant => ?_⟩
                  · rw [want_some rfl rfl rfl (show b__.eval (.tmp 33) = .bool false from hpre ⟨10, _⟩ (Array.mem_of_getElem? (i := 0) rfl) rfl _ _ rfl rfl)] at hwant; cases hwant
                  · exact trivial
                case r17 =>
                  refine trule fun b__ w hW hold hpre => ⟨fun hwant K hK => ?_, fun hwant => ?_⟩
                  · rw [want_some rfl rfl rfl (show b__.eval (.tmp 33) = .bool false from hpre ⟨10, _⟩ (Array.mem_of_getElem? (i := 2) rfl) rfl _ _ rfl rfl)] at hwant; cases hwant
                  · exact trivial
                case r18 =>
                  refine trule fun b__ w hW hold hpre => ⟨fun hwant K hK => ?_, fun hwant => ?_⟩
                  · rw [want_some rfl rfl rfl (show b__.eval (.tmp 33) = .bool false from hpre ⟨10, _⟩ (Array.mem_of_getElem? (i := 3) rfl) rfl _ _ rfl rfl)] at hwant; cases hwant
                  · exact trivial
                case r19 =>
                  refine trule fun b__ w hW hold hpre => ⟨fun hwant K hK => ?_, fun hwant => ?_⟩
                  · clear hwant
                    have e33 : b__.eval (.tmp 33) = .bool false := hpre ⟨10, _⟩ (Array.mem_of_getElem? (i := 0) rfl) rfl _ _ rfl rfl
                    have e41 : (fun (v : Value) (w : World) => True) (b__.eval (.tmp 41)) w := hpre ⟨18, _⟩ (Array.mem_of_getElem? (i := 1) rfl) rfl _ _ rfl rfl
                    exact opw_pick rfl e33 rfl (hK _ _ rfl (Below.refl _ _))
                  · rw [want_none rfl] at hwant; cases hwant
                case post =>
                  intro b__ wz hW hdf hsz hold hT
                  have e23 : b__.eval (.tmp 23) = .pointer (some ⟨g6, 0, none⟩) := hT 0 _ 23 rfl rfl
                  have e24 : b__.eval (.tmp 24) = .bool true := hT 1 _ 24 rfl rfl
                  have e25 : b__.eval (.tmp 25) = .bool false := hT 2 _ 25 rfl rfl
                  have e26 : b__.eval (.tmp 26) = .bool false := hT 3 _ 26 rfl rfl
                  have e32 : b__.eval (.tmp 32) = .bool false := hT 9 _ 32 rfl rfl
                  have e33 : b__.eval (.tmp 33) = .bool false := hT 10 _ 33 rfl rfl
                  have e42 : b__.eval (.tmp 42) = .bool false := hT 19 _ 42 rfl rfl
                  obtain ⟨vs, hvs, hb⟩ := frame_of hdf hsz hold
                  replace e23 : vs 23 = .pointer (some ⟨g6, 0, none⟩) := (hvs 23).symm.trans e23
                  replace e24 : vs 24 = .bool true := (hvs 24).symm.trans e24
                  replace e25 : vs 25 = .bool false := (hvs 25).symm.trans e25
                  replace e26 : vs 26 = .bool false := (hvs 26).symm.trans e26
                  replace e32 : vs 32 = .bool false := (hvs 32).symm.trans e32
                  replace e33 : vs 33 = .bool false := (hvs 33).symm.trans e33
                  replace e42 : vs 42 = .bool false := (hvs 42).symm.trans e42
                  subst hb
                  clear hvs hold hT hdf hsz
                  simp only [setAll, Act.put, List.setIfInBounds_toArray, List.set_cons_zero, List.set_cons_succ, List.getElem_toArray, List.getElem_cons_succ, List.getElem_cons_zero]
                  rw [e42]
                  replace hS := hS.ext hW
                  clear hW
                  go_wp2_with fail
                  exact ⟨⟨j + 1, mb, u, N0, by go_num, rfl, hlj, HI2, (hS.sub (List.sublist_cons_self _ _)).mono (KS.out.and stable_set) fun D w h => ⟨(kc.out _ _ h).1, (kc.out _ _ h).2.1⟩⟩, by simp [intOf]; omega⟩
            · obtain rfl : rl.length = j := by omega
              have HI2 : Hid (ULow L ⟨R, some L, st, rl, nl, gl⟩ N0 ∧ (mb = false → ∀ r ∈ rl, r.revoke = false → (r.yes &&& closM L N0 == r.yes) = true → hasB N0 r.target = true)) := Lib.hid ⟨HI.out.low, fun e r hr => (HI.out.no e).2 r (by rw [List.take_length]; exact hr)⟩
              have HLK : Hid (2 * lacks N0 rl + (if mb = true then 1 else 0) < 2 * lacks B rl + 1) := Lib.hid (by
                cases mb with
                | true => have h := HI.out.yes rfl; dsimp only at h; simp; omega
                | false => have h := (HI.out.no rfl).1; rw [h]; simp)
              clear HI
              go_wp2_with (first | ((with_reducible show wpList _ _ _ (⟨_, .binOp _ _ _ _ _, _, _, _, _⟩ :: _) _ _); (first | (refine st_lss rfl _ _ _ _ rfl _ _ _ rfl rfl (fun h_ => ?_) (fun h_ => ?_)) | (refine st_leq rfl _ _ _ _ rfl _ _ _ rfl rfl (fun h_ => ?_) (fun h_ => ?_)) | (refine st_gtr rfl _ _ _ _ rfl _ _ _ rfl rfl (fun h_ => ?_) (fun h_ => ?_)) | (refine st_geq rfl _ _ _ _ rfl _ _ _ rfl rfl (fun h_ => ?_) (fun h_ => ?_)) | (refine st_eql rfl _ _ _ _ rfl _ _ _ rfl rfl (fun h_ => ?_) (fun h_ => ?_)) | (refine st_neq rfl _ _ _ _ rfl _ _ _ rfl rfl (fun h_ => ?_) (fun h_ => ?_))) <;> go_prune))
              go_roundg (2 * lacks N0 rl + (if mb = true then 1 else 0))
              case measure => have h2 := HGK.out; simp only [if_true] at h2; exact Nat.lt_of_lt_of_le HLK.out h2
              case rel => exact ⟨mb, u, N0, rfl, Nat.le_refl _, HI2, hS⟩
  · have HUS : Hid (useN ⟨R, lk, st, rl, nl, gl⟩ = []) := Lib.hid (by unfold useN; rw [if_neg (fun h => h0 (HE.out.trans h))])
    rw [HUS.out]
    go_enter Tryd.func14, Tryd.ntmps14
    go_wp2_with (first
      | ((with_reducible show wpList _ _ _ (⟨some 1, _, _, _, _, _⟩ :: _) _ _); refine st_box hS rfl _ _ rfl (.agg #[.int .i64 R, lp, .slice Cs ns cs, .slice Ar rl.length cr, .slice An nl.length cn, .slice Ag gl.length cg]) _ rfl rfl ?_; clear hS; intro g1 w_ hS; (try simp only [Act.put, Act.eval, List.set_cons_zero, List.set_cons_succ, List.setIfInBounds_toArray, Array.getD_eq_getD_getElem?, List.getElem?_toArray, List.getElem?_cons_succ, List.getElem?_cons_zero, Option.getD_some, Value.cells] at hS))
      | ((with_reducible show wpList _ _ _ (⟨_, .binOp _ _ _ _ _, _, _, _, _⟩ :: _) _ _); (first | (refine st_lss rfl _ _ _ _ rfl _ _ _ rfl rfl (fun h_ => ?_) (fun h_ => ?_)) | (refine st_leq rfl _ _ _ _ rfl _ _ _ rfl rfl (fun h_ => ?_) (fun h_ => ?_)) | (refine st_gtr rfl _ _ _ _ rfl _ _ _ rfl rfl (fun h_ => ?_) (fun h_ => ?_)) | (refine st_geq rfl _ _ _ _ rfl _ _ _ rfl rfl (fun h_ => ?_) (fun h_ => ?_)) | (refine st_eql rfl _ _ _ _ rfl _ _ _ rfl rfl (fun h_ => ?_) (fun h_ => ?_)) | (refine st_neq rfl _ _ _ _ rfl _ _ _ rfl rfl (fun h_ => ?_) (fun h_ => ?_))) <;> go_prune)
      | ((with_reducible show wpList _ _ _ (⟨_, .load _ _, _, _, _, _⟩ :: _) _ _); first | refine st_load hS 0 rfl _ _ rfl _ rfl _ _ rfl _ Tryd.underlying43 rfl (by kernel_rfl) ?_ | refine st_load hS 1 rfl _ _ rfl _ rfl _ _ rfl _ Tryd.underlying43 rfl (by kernel_rfl) ?_ | refine st_load hS 2 rfl _ _ rfl _ rfl _ _ rfl _ Tryd.underlying43 rfl (by kernel_rfl) ?_ | refine st_load hS 3 rfl _ _ rfl _ rfl _ _ rfl _ Tryd.underlying43 rfl (by kernel_rfl) ?_)
      | (go_at_call 17; refine (schk_any (kp _ _ hS.ro) HP.out (kt _ _ hS.ro)).mono ?_; rw [← HE.out]; rintro r_ w_ ⟨_, rfl, rfl, hb_⟩; replace hS := hS.ext hb_; clear hb_))
    go_ret
    exact ⟨_, rfl, ((hS.sub (List.nil_sublist _)).nil 3 1).mono (Stable.pure True) fun _ _ _ => trivial⟩
end Go.Proofs.YtihpgmbinhmmlaaDoor
namespace Go.Proofs.YtihpgmbinhmmlaaDoor
open Go.RowKit
attribute [local go_sem ↓] Go.wp_at_zero Go.wp_at_succ
set_option maxRecDepth 20000
set_option exponentiation.threshold 5000

def goodI (m : List Int) (k : Int) : Bool := decide (0 ≤ k ∧ k < m.length)
def getI (m : List Int) (k : Int) : Int := m.getD k.toNat 0
theorem intsG {l : List Int} {k : Nat} (h : k < l.length) : (ints l)[k]? = some (.int .i64 (l.getD k 0)) := by
  unfold ints
  rw [List.getElem?_map, List.getElem?_eq_getElem h, List.getD_eq_getElem?_getD, List.getElem?_eq_getElem h]; rfl
def BackR (w0 : World) (l m : List Int) (e : Ending) (w' : World) : Prop :=
  (l.all (goodI m) = false ∧ e = .returned (.tuple #[.slice none 0 0, .int .i64 2]) ∧ Below w0.heap.size w0 w') ∨
  (l.all (goodI m) = true ∧ ∃ x, e = .returned (.tuple #[x, .int .i64 0]) ∧ St w0 w' [.own x 3 1 (l.map (getI m)).length (ints (l.map (getI m)))] fun _ _ => True)
theorem back_any {w0 : World} {D E : Nat → Prop} {u v : Value} {l m : List Int} (hu : Sl w0 D 1 u l.length (ints l)) (hv : Sl w0 E 1 v m.length (ints m)) (hl : l.length ≤ 1000000) : Calls Tryd.prog 6 #[u, v] w0 (BackR w0 l m) := by
  obtain ⟨A, c, rfl, _, _⟩ := hu.shape
  obtain ⟨B, d, rfl, _, _⟩ := hv.shape
  obtain ⟨K, k1, k2, hS⟩ : ∃ K : (Nat → Prop) → World → Prop, (∀ D w, K D w → Sl w D 1 (.slice A l.length c) l.length (ints l)) ∧ (∀ D w, K D w → Sl w D 1 (.slice B m.length d) m.length (ints m)) ∧ St w0 w0 [] K := ⟨_, fun _ _ h => h.1, fun _ _ h => h.2, St.start (D := fun _ => True) ((stable_sl (by decide)).and (stable_sl (by decide))) ⟨hu.imp fun _ _ _ => trivial, hv.imp fun _ _ _ => trivial⟩⟩
  have KS := Lib.hid hS.stable
  clear hu hv
  go_enter Tryd.func6, Tryd.ntmps6
  go_wp2_with fail
  replace hS := hS.nil 3 1
  go_loopw [6, 11] (fun ow i wr => ∃ (j : Nat) (ov : Value), i = .int .i64 (j : Nat) ∧ ov = ow ∧ j ≤ l.length ∧ Hid (∀ x ∈ l.take j, goodI m x = true) ∧ St w0 wr [.own ov 3 1 j (ints ((l.take j).map (getI m)))] K) (fun _ i _ => l.length - (intOf i).toNat)
  case atStart => exact ⟨0, _, rfl, rfl, by omega, Lib.hid (by simp), hS⟩
  case round =>
    clear hS
    obtain ⟨j, ov, rfl, rfl, hj, HG, hS⟩ := hrel
    by_cases hlj : j < l.length
    · have f1 := intsG hlj
      have hM : l.getD j 0 ∈ l := by rw [List.getD_eq_getElem?_getD, List.getElem?_eq_getElem hlj]; exact List.getElem_mem hlj
      have HT : Hid (l.take (j + 1) = l.take j ++ [l.getD j 0]) := Lib.hid (take_getD l j 0 hlj)
      have HB : Hid (goodI m (l.getD j 0) = false → l.all (goodI m) = false) := Lib.hid fun h => by
        rw [List.all_eq_false]; exact ⟨_, hM, by rw [h]; decide⟩
      clear hM
      generalize l.getD j 0 = x at *
      by_cases h0 : x < 0
      · have HB2 := Lib.hid (HB.out (by unfold goodI; simp; omega))
        clear HB HT
        go_wp2_with (first | ((with_reducible show wpList _ _ _ (⟨_, .binOp _ _ _ _ _, _, _, _, _⟩ :: _) _ _); (first | (refine st_lss rfl _ _ _ _ rfl _ _ _ rfl rfl (fun h_ => ?_) (fun h_ => ?_)) | (refine st_leq rfl _ _ _ _ rfl _ _ _ rfl rfl (fun h_ => ?_) (fun h_ => ?_)) | (refine st_gtr rfl _ _ _ _ rfl _ _ _ rfl rfl (fun h_ => ?_) (fun h_ => ?_)) | (refine st_geq rfl _ _ _ _ rfl _ _ _ rfl rfl (fun h_ => ?_) (fun h_ => ?_)) | (refine st_eql rfl _ _ _ _ rfl _ _ _ rfl rfl (fun h_ => ?_) (fun h_ => ?_)) | (refine st_neq rfl _ _ _ _ rfl _ _ _ rfl rfl (fun h_ => ?_) (fun h_ => ?_))) <;> go_prune) | ((with_reducible show wpList _ _ _ (⟨_, .indexAddr _ _ _, _, _, _, _⟩ :: _) _ _); refine st_iaddr1 hS rfl _ _ _ rfl _ rfl rfl (by assumption) Tryd.underlying22 (by kernel_rfl) (by first | assumption | omega) _ (by assumption) ?_; intro p_ hc_) | ((with_reducible show wpList _ _ _ (⟨_, .load _ _, _, _, _, _⟩ :: _) _ _); first | (refine st_cell hS 0 rfl _ _ rfl _ _ rfl _ _ rfl (by decide +kernel) _ (by first | assumption | rfl) ?_) | (refine st_cell hS 1 rfl _ _ rfl _ _ rfl _ _ rfl (by decide +kernel) _ (by first | assumption | rfl) ?_) | (refine st_cell hS 2 rfl _ _ rfl _ _ rfl _ _ rfl (by decide +kernel) _ (by first | assumption | rfl) ?_) | (refine st_cell hS 3 rfl _ _ rfl _ _ rfl _ _ rfl (by decide +kernel) _ (by first | assumption | rfl) ?_) | (refine st_cell hS 4 rfl _ _ rfl _ _ rfl _ _ rfl (by decide +kernel) _ (by first | assumption | rfl) ?_) | (refine st_cell hS 5 rfl _ _ rfl _ _ rfl _ _ rfl (by decide +kernel) _ (by first | assumption | rfl) ?_) | (refine st_cell hS 6 rfl _ _ rfl _ _ rfl _ _ rfl (by decide +kernel) _ (by first | assumption | rfl) ?_) | (refine st_cell hS 7 rfl _ _ rfl _ _ rfl _ _ rfl (by decide +kernel) _ (by first | assumption | rfl) ?_)))
        go_ret2
        exact .inl ⟨HB2.out, rfl, hS.below⟩
      · by_cases h1 : x < m.length
        · obtain ⟨t, rfl⟩ : ∃ t : Nat, x = (t : Int) := ⟨x.toNat, by omega⟩
          have htm : t < m.length := by omega
          have f2 := intsG htm
          have HG2 : Hid (∀ x ∈ l.take (j + 1), goodI m x = true) := Lib.hid fun y hy => by
            rw [HT.out, List.mem_append] at hy
            rcases hy with hy | hy
            · exact HG.out y hy
            · rw [List.mem_singleton] at hy; subst hy; unfold goodI; simp; omega
          have HT2 : Hid (ints ((l.take (j + 1)).map (getI m)) = ints ((l.take j).map (getI m)) ++ [.int .i64 (m.getD t 0)]) := Lib.hid (by rw [HT.out]; simp [ints, getI])
          clear HB HT HG
          generalize ints ((l.take j).map (getI m)) = xs at *
          generalize m.getD t 0 = y at *
          go_wp2_with (first
            | ((with_reducible show wpList _ _ _ (⟨_, .binOp _ _ _ _ _, _, _, _, _⟩ :: _) _ _); (first | (refine st_lss rfl _ _ _ _ rfl _ _ _ rfl rfl (fun h_ => ?_) (fun h_ => ?_)) | (refine st_leq rfl _ _ _ _ rfl _ _ _ rfl rfl (fun h_ => ?_) (fun h_ => ?_)) | (refine st_gtr rfl _ _ _ _ rfl _ _ _ rfl rfl (fun h_ => ?_) (fun h_ => ?_)) | (refine st_geq rfl _ _ _ _ rfl _ _ _ rfl rfl (fun h_ => ?_) (fun h_ => ?_)) | (refine st_eql rfl _ _ _ _ rfl _ _ _ rfl rfl (fun h_ => ?_) (fun h_ => ?_)) | (refine st_neq rfl _ _ _ _ rfl _ _ _ rfl rfl (fun h_ => ?_) (fun h_ => ?_))) <;> go_prune)
            | ((with_reducible show wpList _ _ _ (⟨_, .indexAddr _ _ _, _, _, _, _⟩ :: _) _ _); refine st_iaddr1 hS rfl _ _ _ rfl _ rfl rfl (by assumption) Tryd.underlying22 (by kernel_rfl) (by first | assumption | omega) _ (by assumption) ?_; intro p_ hc_)
            | ((with_reducible show wpList _ _ _ (⟨some 44, _, _, _, _, _⟩ :: _) _ _); refine st_push hS 0 rfl rfl _ _ _ _ rfl rfl ty_ints ov j xs (.int .i64 y) #[.int .i64 y] rfl (by kernel_rfl) rfl rfl rfl rfl (by intro u hu; simp at hu; subst hu; rfl) (by omega) (by omega) ?_; clear hS; intro z_ v' w_ hS; (try simp only [Act.put, Act.eval, List.set_cons_zero, List.set_cons_succ, List.setIfInBounds_toArray, Array.getD_eq_getD_getElem?, List.getElem?_toArray, List.getElem?_cons_succ, List.getElem?_cons_zero, Option.getD_some, Value.cells] at hS))
            | ((with_reducible show wpList _ _ _ (⟨_, .buildSlice _ 1 _, _, _, _, _⟩ :: _) _ _); refine st_push hS 0 rfl rfl _ _ _ _ rfl rfl ty_ints _ _ _ (.int .i64 y) #[.int .i64 y] rfl (by kernel_rfl) rfl rfl rfl rfl (by intro u hu; simp at hu; first | (subst hu; rfl) | (rcases hu with rfl | rfl <;> rfl)) (by omega) (by omega) ?_; clear hS; intro z_ v_ w_ hS; (try simp only [Act.put, Act.eval, List.set_cons_zero, List.set_cons_succ, List.setIfInBounds_toArray, Array.getD_eq_getD_getElem?, List.getElem?_toArray, List.getElem?_cons_succ, List.getElem?_cons_zero, Option.getD_some, Value.cells] at hS))
            | ((with_reducible show wpList _ _ _ (⟨_, .load _ _, _, _, _, _⟩ :: _) _ _); refine BigFrame.wpList_want rfl fun _ hK => opw_cell rfl rfl (by kernel_rfl) (by assumption) (hK _ _ ?_)))
          refine ⟨⟨j + 1, _, by go_num, rfl, hlj, HG2, ?_⟩, by simp [intOf]; omega⟩
          rw [HT2.out]
          exact hS
        · have HB2 := Lib.hid (HB.out (by unfold goodI; simp; omega))
          have h2 : (m.length : Int) ≤ x := by omega
          clear HB HT
          go_wp2_with (first | ((with_reducible show wpList _ _ _ (⟨_, .binOp _ _ _ _ _, _, _, _, _⟩ :: _) _ _); (first | (refine st_lss rfl _ _ _ _ rfl _ _ _ rfl rfl (fun h_ => ?_) (fun h_ => ?_)) | (refine st_leq rfl _ _ _ _ rfl _ _ _ rfl rfl (fun h_ => ?_) (fun h_ => ?_)) | (refine st_gtr rfl _ _ _ _ rfl _ _ _ rfl rfl (fun h_ => ?_) (fun h_ => ?_)) | (refine st_geq rfl _ _ _ _ rfl _ _ _ rfl rfl (fun h_ => ?_) (fun h_ => ?_)) | (refine st_eql rfl _ _ _ _ rfl _ _ _ rfl rfl (fun h_ => ?_) (fun h_ => ?_)) | (refine st_neq rfl _ _ _ _ rfl _ _ _ rfl rfl (fun h_ => ?_) (fun h_ => ?_))) <;> go_prune) | ((with_reducible show wpList _ _ _ (⟨_, .indexAddr _ _ _, _, _, _, _⟩ :: _) _ _); refine st_iaddr1 hS rfl _ _ _ rfl _ rfl rfl (by assumption) Tryd.underlying22 (by kernel_rfl) (by first | assumption | omega) _ (by assumption) ?_; intro p_ hc_) | ((with_reducible show wpList _ _ _ (⟨_, .load _ _, _, _, _, _⟩ :: _) _ _); refine BigFrame.wpList_want rfl fun _ hK => opw_cell rfl rfl (by kernel_rfl) (by assumption) (hK _ _ ?_)))
          go_ret2
          exact .inl ⟨HB2.out, rfl, hS.below⟩
    · obtain rfl : l.length = j := by omega
      have HA : Hid (l.all (goodI m) = true) := Lib.hid (List.all_eq_true.2 fun x hx => HG.out x (by rw [List.take_length]; exact hx))
      rw [List.take_length] at hS
      go_wp2_with (first | ((with_reducible show wpList _ _ _ (⟨_, .binOp _ _ _ _ _, _, _, _, _⟩ :: _) _ _); (first | (refine st_lss rfl _ _ _ _ rfl _ _ _ rfl rfl (fun h_ => ?_) (fun h_ => ?_)) | (refine st_leq rfl _ _ _ _ rfl _ _ _ rfl rfl (fun h_ => ?_) (fun h_ => ?_)) | (refine st_gtr rfl _ _ _ _ rfl _ _ _ rfl rfl (fun h_ => ?_) (fun h_ => ?_)) | (refine st_geq rfl _ _ _ _ rfl _ _ _ rfl rfl (fun h_ => ?_) (fun h_ => ?_)) | (refine st_eql rfl _ _ _ _ rfl _ _ _ rfl rfl (fun h_ => ?_) (fun h_ => ?_)) | (refine st_neq rfl _ _ _ _ rfl _ _ _ rfl rfl (fun h_ => ?_) (fun h_ => ?_))) <;> go_prune))
      go_ret2
      refine .inr ⟨HA.out, _, rfl, ?_⟩
      rw [List.length_map]
      exact hS.mono (Stable.pure True) fun _ _ _ => trivial
end Go.Proofs.YtihpgmbinhmmlaaDoor
namespace Go.Proofs.YtihpgmbinhmmlaaDoor
open Go.RowKit
set_option exponentiation.threshold 5000

def InR (N : Nat) : Prop := ∀ i, N.testBit i = true → 1 ≤ i ∧ i < 64
theorem tc_nil {a b : Nat} : ¬ TC [] a b := fun h => by obtain ⟨y, h, _⟩ := h.first; simp at h
theorem closM_nil {N : Nat} (h : InR N) : closM [] N = N := mask_ext fun i => by
  rw [tb_closM]
  constructor
  · rintro ⟨r, h1, h2, h3, h4⟩
    rcases (tb_jun (by intro x hx; simp at hx) h1).1 h4 with rfl | h5
    · exact h3
    · exact absurd h5 tc_nil
  · intro hi
    exact ⟨i, (h i hi).2, (h i hi).1, hi, (tb_jun (by intro x hx; simp at hx) (h i hi).2).2 (.inl rfl)⟩
theorem depM_nil {N : Nat} (h : InR N) : depM [] N = N := mask_ext fun i => by
  rw [tb_dep (by intro x hx; simp at hx)]
  constructor
  · rintro ⟨r, h1, h2, h3, h4⟩
    rcases (tb_sen (by intro x hx; simp at hx)).1 h4 with rfl | h5
    · exact h3
    · exact absurd h5 tc_nil
  · intro hi
    exact ⟨i, (h i hi).1, (h i hi).2, hi, (tb_sen (by intro x hx; simp at hx)).2 (.inl rfl)⟩
theorem inR_of {N : Nat} (h : N < 2 ^ 7) (h0 : N.testBit 0 = false) : InR N := fun i hi => by
  have : i < 7 := by
    rcases Nat.lt_or_ge i 7 with h1 | h1
    · exact h1
    · rw [Nat.testBit_lt_two_pow (Nat.lt_of_lt_of_le h (Nat.pow_le_pow_right (by decide) h1))] at hi; cases hi
  refine ⟨?_, by omega⟩
  rcases Nat.eq_zero_or_pos i with rfl | h1
  · rw [h0] at hi; cases hi
  · exact h1
def P1 : ProbD := ⟨5, some [], 0, [⟨false, 4, 0, 1, 0⟩, ⟨false, 0, 0, 2, 0⟩, ⟨false, 2, 0, 3, 0⟩, ⟨true, 0, 0, 4, 0⟩], [(36, 0)], [(2, 0)]⟩
def P2 : ProbD := ⟨5, some [], 4, [⟨false, 12, 0, 1, 0⟩], [], [(2, 0)]⟩
theorem dep2 : depM [] 2 = 2 := depM_nil (inR_of (by decide) (by decide))
theorem dep4 : depM [] 4 = 4 := depM_nil (inR_of (by decide) (by decide))
theorem dep36 : depM [] 36 = 36 := depM_nil (inR_of (by decide) (by decide))
theorem dep0 : depM [] 0 = 0 := depM_nil (inR_of (by decide) (by decide))
theorem check1 : checkE P1 = 0 := by
  have hg : goodB P1 0 = true := by
    show (!(P1.never.any fun z => holdsB z (closM [] 0))) = true
    rw [closM_nil (inR_of (by decide) (by decide))]; decide
  show (if (5 : Int) < 1 ∨ 63 < (5 : Int) then (1 : Int) else if 64 < P1.rules.length ∨ 2000 < P1.never.length ∨ 2000 < P1.goal.length then 3
    else if knownB P1 [] (rolesN 5) = false then 4 else if (P1.cubes.any fun z => z.1 &&& z.2 != 0) = true ∨ P1.rules.all revB = false then 6
    else if goodB P1 0 = false then 7 else 0) = 0
  rw [if_neg (by decide), if_neg (by decide), if_neg (by decide), if_neg (by decide), if_neg (by rw [hg]; decide)]
theorem check2 : checkE P2 = 0 := by
  have hg : goodB P2 4 = true := by
    show (!(P2.never.any fun z => holdsB z (closM [] 4))) = true
    rfl
  show (if (5 : Int) < 1 ∨ 63 < (5 : Int) then (1 : Int) else if 64 < P2.rules.length ∨ 2000 < P2.never.length ∨ 2000 < P2.goal.length then 3
    else if knownB P2 [] (rolesN 5) = false then 4 else if (P2.cubes.any fun z => z.1 &&& z.2 != 0) = true ∨ P2.rules.all revB = false then 6
    else if goodB P2 4 = false then 7 else 0) = 0
  rw [if_neg (by decide), if_neg (by decide), if_neg (by decide), if_neg (by decide), if_neg (by rw [hg]; decide)]
theorem rel1 : relM [] P1 = 38 := by
  refine (Low.eq ⟨fun T hT => ?_, by decide⟩ ⟨fun c hc => ?_, fun r hr h1 h2 => ?_, fun c hc _ => ?_⟩).symm
  · have a1 : Sub 2 T := by
      have := hT.goal (2, 0) (by simp [P1])
      rw [show depC [] (2, 0) = depM [] 2 from rfl, dep2] at this; exact this
    have a2 : Sub 4 T := by
      have := hT.rules ⟨false, 4, 0, 1, 0⟩ (by simp [P1]) rfl (a1.has (by decide))
      rw [show depR [] ⟨false, 4, 0, 1, 0⟩ = depM [] 4 from rfl, dep4] at this; exact this
    have a3 : Sub 36 T := by
      have := hT.never (36, 0) (by simp [P1]) (by rw [show depC [] (36, 0) = depM [] 36 from rfl, dep36]; exact meets_iff.2 ⟨2, by decide, a2 2 (by decide)⟩)
      rw [show depC [] (36, 0) = depM [] 36 from rfl, dep36] at this; exact this
    have e : (38 : Nat) = 2 ||| 36 := by decide
    rw [e]; exact a1.or a3
  · obtain rfl : c = (2, 0) := by simpa [P1] using hc
    rw [show depC [] (2, 0) = depM [] 2 from rfl, dep2]; exact within_iff.1 (by decide)
  · simp only [P1, List.mem_cons, List.not_mem_nil, or_false] at hr
    rcases hr with rfl | rfl | rfl | rfl
    · rw [show depR [] ⟨false, 4, 0, 1, 0⟩ = depM [] 4 from rfl, dep4]; exact within_iff.1 (by decide)
    · rw [show depR [] ⟨false, 0, 0, 2, 0⟩ = depM [] 0 from rfl, dep0]; exact within_iff.1 (by decide)
    · exact absurd h2 (by decide)
    · cases h1
  · obtain rfl : c = (36, 0) := by simpa [P1] using hc
    rw [show depC [] (36, 0) = depM [] 36 from rfl, dep36]; exact within_iff.1 (by decide)
theorem relS1 : relS P1 = 38 := by unfold relS; rw [if_pos check1]; exact rel1
theorem ofP1 : (ofP P1).rules.length = 2 ∧ (ofP P1).never.length = 1 := by
  have e : ofP P1 = ⟨5, some [], 0 &&& relM [] P1, keepR (relM [] P1) P1.rules, keepC [] (relM [] P1) P1.never, P1.goal⟩ := by unfold ofP; rw [if_pos check1]; rfl
  rw [e, rel1]
  refine ⟨by decide, ?_⟩
  show (List.filter (fun c => depC [] c &&& 38 != 0) [(36, 0)]).length = 1
  rw [List.filter_cons, show depC [] (36, 0) = depM [] 36 from rfl, dep36]; rfl
theorem ofK1 : ofKept P1 = [0, 1] := by
  have e : ofKept P1 = keepN (relM [] P1) P1.rules P1.rules.length := by unfold ofKept; rw [if_pos check1]; rfl
  rw [e, rel1]; decide
theorem upp2 : uppM [] P2 = 4 := by
  refine (ULeast.eq ⟨⟨Sub.refl _, fun r hr h1 h2 => ?_⟩, fun T hT => hT.start⟩).symm
  obtain rfl : r = ⟨false, 12, 0, 1, 0⟩ := by simpa [P2] using hr
  rw [closM_nil (inR_of (by decide) (by decide))] at h2
  revert h2; decide
theorem use2 : useN P2 = [0] := by
  have e : useN P2 = uslN (closM [] (uppM [] P2)) P2.rules P2.rules.length := by unfold useN; rw [if_pos check2]; rfl
  rw [e, upp2, closM_nil (inR_of (by decide) (by decide))]; rfl
theorem ok1 : P1.Ok := ⟨by decide, by decide, by decide, fun L h => by cases h; exact ⟨HOK.nil, by decide⟩⟩
theorem ok2 : P2.Ok := ⟨by decide, by decide, by decide, fun L h => by cases h; exact ⟨HOK.nil, by decide⟩⟩
end Go.Proofs.YtihpgmbinhmmlaaDoor
namespace Go.Proofs.YtihpgmbinhmmlaaDoor
open Go.RowKit
attribute [local go_sem ↓] Go.wp_at_zero Go.wp_at_succ
set_option maxRecDepth 20000
set_option exponentiation.threshold 5000

theorem one_any {w0 : World} {D : Nat → Prop} {v : Value} {l : List Int} {N : Nat} (hs : Sl w0 D 1 v l.length (ints l)) (hN : ofN l = N) : Calls Tryd.prog 8 #[v] w0 (Ret (fun x w' => IsCube w' (w0.heap.size ≤ ·) x (N, 0)) w0) := by
  obtain ⟨K, k1, hS⟩ : ∃ K : (Nat → Prop) → World → Prop, (∀ D w, K D w → Sl w D 1 v l.length (ints l)) ∧ St w0 w0 [] K := ⟨_, fun _ _ h => h, St.start (stable_sl (by decide)) hs⟩
  clear hs
  go_enter Tryd.func8, Tryd.ntmps8
  go_wp2_with (first
    | ((with_reducible show wpList _ _ _ (⟨some 2, _, _, _, _, _⟩ :: _) _ _); refine st_allocz hS rfl _ rfl (by kernel_rfl) #[.slice none 0 0, .slice none 0 0] (by kernel_rfl) ?_; clear hS; intro g2 w_ hS; (try simp only [Act.put, Act.eval, List.set_cons_zero, List.set_cons_succ, List.setIfInBounds_toArray, Array.getD_eq_getD_getElem?, List.getElem?_toArray, List.getElem?_cons_succ, List.getElem?_cons_zero, Option.getD_some, Value.cells] at hS))
    | (go_at_call 9; have hsW := hS.size; refine (of_any _ l _ _ (k1 _ _ hS.ro)).mono ?_; rw [hN]; rintro r_ w_ ⟨_, rfl, h1, hb_⟩; obtain ⟨A, c, lw, rfl, -⟩ := h1.parts; replace hS := hS.ret hb_ (stable_inter stable_set fun z => w0.heap.size ≤ z) (h1.imp fun z hz _ => ⟨hz, Nat.le_trans hsW hz⟩); clear h1 hb_ hsW)
    | ((with_reducible show wpList _ _ _ (⟨_, .build _ _, _, _, _, _⟩ :: _) _ _); refine wpList_build_of rfl _ _ rfl #[.slice A lw.length c, .slice none 0 0] (by kernel_rfl) ?_)
    | ((with_reducible show wpList _ _ _ (⟨_, .store _ _ _, _, _, _, _⟩ :: _) _ _); (first | (refine st_store hS 0 rfl _ _ _ rfl _ _ rfl rfl _ _ rfl (by kernel_rfl) (by kernel_rfl) (by kernel_rfl) ?_) | (refine st_store hS 1 rfl _ _ _ rfl _ _ rfl rfl _ _ rfl (by kernel_rfl) (by kernel_rfl) (by kernel_rfl) ?_) | (refine st_store hS 2 rfl _ _ _ rfl _ _ rfl rfl _ _ rfl (by kernel_rfl) (by kernel_rfl) (by kernel_rfl) ?_) | (refine st_store hS 3 rfl _ _ _ rfl _ _ rfl rfl _ _ rfl (by kernel_rfl) (by kernel_rfl) (by kernel_rfl) ?_) | (refine st_cstore hS 0 rfl _ _ _ rfl _ _ _ rfl rfl rfl (by first | (simp; done) | (simp; omega) | exact of_decide_eq_true (by kernel_rfl)) rfl (by first | rfl | assumption) (by kernel_rfl) ?_) | (refine st_cstore hS 1 rfl _ _ _ rfl _ _ _ rfl rfl rfl (by first | (simp; done) | (simp; omega) | exact of_decide_eq_true (by kernel_rfl)) rfl (by first | rfl | assumption) (by kernel_rfl) ?_) | (refine st_cstore hS 2 rfl _ _ _ rfl _ _ _ rfl rfl rfl (by first | (simp; done) | (simp; omega) | exact of_decide_eq_true (by kernel_rfl)) rfl (by first | rfl | assumption) (by kernel_rfl) ?_) | (refine st_cstore hS 3 rfl _ _ _ rfl _ _ _ rfl rfl rfl (by first | (simp; done) | (simp; omega) | exact of_decide_eq_true (by kernel_rfl)) rfl (by first | rfl | assumption) (by kernel_rfl) ?_)); clear hS; intro w_ hS; (try simp only [Act.put, Act.eval, List.set_cons_zero, List.set_cons_succ, List.setIfInBounds_toArray, Array.getD_eq_getD_getElem?, List.getElem?_toArray, List.getElem?_cons_succ, List.getElem?_cons_zero, Option.getD_some, Value.cells] at hS)))
  refine ret_cell Tryd.results8 rfl (hS.box 0 rfl) Tryd.underlying33 rfl (by kernel_rfl) rfl ?_
  exact Ret.mk ⟨_, _, rfl, hS.ro.2.imp fun z hz _ => hz.2, IsSet.empty⟩ hS.below
theorem st_litg {P : Program} {ops : Array Oper} {rest : List Oper} {o : Oper} {a : Act} {Q : Exit → Act → World → Prop} {w0 w : World} {F : List Fact} {K : (Nat → Prop) → World → Prop} (h : St w0 w F K) (hg : Region.wanted o (yielded ops a.tmps) = true) (t e : TypeId) (len : Nat) (parts : Array (Nat × Operand)) (ho : o.op = .buildSlice t len parts) (ht : P.underlying t = some (.slice e)) (cells : Array Value)
    (hb : builtSlice P e len (parts.map fun (i, x) => (i, a.eval x)).toList = some cells) (size : Nat) (hs : cells.size = len * size) (hm : len ≤ 1000000000000)
    (hk : ∀ g w', St w0 w' (.own (.slice (some ⟨g, 0, none⟩) len len) e size len cells.toList :: F) K → wpList P ops Q rest (a.put o.dst (.slice (some ⟨g, 0, none⟩) len len)) w') : wpList P ops Q (o :: rest) a w :=
  BigFrame.wpList_want hg fun _ hK => opw_slice ho ht rfl hb fun w' hX hB => hK _ _ (hk _ w' (h.new hB _ ⟨by simpa using hs, .inr ⟨w.heap.size, len, cells, rfl, Nat.le_refl _, hX, Nat.le_refl _, by unfold maxLen; omega, hs, by rw [← hs, show cells.size = cells.toList.length by simp, List.take_length]⟩⟩))
theorem st_litp {P : Program} {ops : Array Oper} {rest : List Oper} {o : Oper} {a : Act} {Q : Exit → Act → World → Prop} {w0 w : World} {F : List Fact} {K : (Nat → Prop) → World → Prop} (h : St w0 w F K) (hg : Region.wanted o (yielded ops a.tmps) = true) (t e : TypeId) (len : Nat) (parts : Array (Nat × Operand)) (ho : o.op = .buildSlice t len parts) (ht : P.underlying t = some (.slice e)) (ps : List (Nat × Value)) (hp : (parts.map fun (i, x) => (i, a.eval x)).toList = ps) (cells : Array Value)
    (hb : builtSlice P e len ps = some cells) (size : Nat) (hs : cells.size = len * size) (hm : len ≤ 1000000000000)
    (hk : ∀ g w', St w0 w' (.own (.slice (some ⟨g, 0, none⟩) len len) e size len cells.toList :: F) K → wpList P ops Q rest (a.put o.dst (.slice (some ⟨g, 0, none⟩) len len)) w') : wpList P ops Q (o :: rest) a w :=
  BigFrame.wpList_want hg fun _ hK => opw_slice ho ht hp hb fun w' hX hB => hK _ _ (hk _ w' (h.new hB _ ⟨by simpa using hs, .inr ⟨w.heap.size, len, cells, rfl, Nat.le_refl _, hX, Nat.le_refl _, by unfold maxLen; omega, hs, by rw [← hs, show cells.size = cells.toList.length by simp, List.take_length]⟩⟩))
theorem IsCube.sets {w : World} {D : Nat → Prop} {a b : Value} {z : Nat × Nat} (h : IsCube w D (.agg #[a, b]) z) : IsSet w D (.agg #[a]) z.1 ∧ IsSet w D (.agg #[b]) z.2 := by
  obtain ⟨x, y, he, h1, h2⟩ := h
  have e : a = x ∧ b = y := by simpa using he
  obtain ⟨rfl, rfl⟩ := e
  exact ⟨h1, h2⟩
theorem cc1 {w : World} {D : Nat → Prop} {a b : Value} {z : Nat × Nat} (h : IsCube w D (.agg #[a, b]) z) : CubeCells w D [a, b] [z] := fun i y n hi => by
  cases i with
  | zero => obtain rfl := Option.some.inj (show some z = some (y, n) from hi); exact ⟨a, b, rfl, rfl, h.sets.1, h.sets.2⟩
  | succ i => simp at hi
theorem rcells1 {w : World} {D : Nat → Prop} {a1 b1 a3 b3 : Value} (h1 : IsCube w D (.agg #[a1, b1]) (4, 0)) (h3 : IsCube w D (.agg #[a3, b3]) (2, 0)) :
    RuleCells w D [.bool false, a1, b1, .int .i64 1, .int .i64 0, .bool false, .slice none 0 0, .slice none 0 0, .int .i64 2, .int .i64 0, .bool false, a3, b3, .int .i64 3, .int .i64 0, .bool true, .slice none 0 0, .slice none 0 0, .int .i64 4, .int .i64 0] P1.rules :=
  RuleCells.append (l := [⟨false, 4, 0, 1, 0⟩]) (xs := [.bool false, a1, b1, .int .i64 1, .int .i64 0]) rfl (RuleCells.single h1.sets.1 h1.sets.2)
    (RuleCells.append (l := [⟨false, 0, 0, 2, 0⟩]) (xs := [.bool false, .slice none 0 0, .slice none 0 0, .int .i64 2, .int .i64 0]) rfl (RuleCells.single IsSet.empty IsSet.empty)
      (RuleCells.append (l := [⟨false, 2, 0, 3, 0⟩]) (xs := [.bool false, a3, b3, .int .i64 3, .int .i64 0]) rfl (RuleCells.single h3.sets.1 h3.sets.2) (RuleCells.single (z := ⟨true, 0, 0, 4, 0⟩) IsSet.empty IsSet.empty)))
theorem ofL1 : (ofP P1).links = some [] := by unfold ofP; rw [if_pos check1]; rfl
theorem of1_any {w0 w : World} {F : List Fact} {K : (Nat → Prop) → World → Prop} {v : Value} (hS : St w0 w F K) (kp : ∀ D w, K D w → IsProb w D v P1) (kt : ∀ D w, K D w → DTab w) :
    Calls Tryd.prog 11 #[v] w fun e w' => ∃ (R : Int) (q n3 c3 cr3 cn3 ng3 cg3 : Nat) (A3 Ar3 An3 Ag3 : Option Addr) (k : Value), e = .returned (.tuple #[.agg #[.int .i64 R, .pointer (some ⟨q, 0, none⟩), .slice A3 n3 c3, .slice Ar3 2 cr3, .slice An3 1 cn3, .slice Ag3 ng3 cg3], k, .int .i64 0]) ∧ St w0 w' F fun D w => K D w ∧ Sl w D 1 k ([0, 1] : List Int).length (ints [0, 1]) := by
  have KS := hS.stable
  refine (of_slice_any ok1 hS kp kt).mono ?_
  rintro e w3 ⟨u3, k3, rfl, hS⟩
  obtain ⟨lp3, s3, rv3, nv3, gv3, rfl, hh, hs, hr, hn, hg⟩ := id hS.ro.1.2
  have e1 := ofL1
  have e2 := ofP1
  have e3 := ofK1
  have e4 := check1
  obtain ⟨A3, n3, c3, rfl⟩ := hs.shape
  obtain ⟨Ar3, cr3, rfl, _, _⟩ := hr.shape
  obtain ⟨An3, cn3, rfl, _, _⟩ := hn.shape
  obtain ⟨Ag3, cg3, rfl, _, _⟩ := hg.shape
  rw [e1] at hh
  obtain ⟨q3, o3, rfl, -⟩ := hh
  refine ⟨_, q3, n3, c3, cr3, cn3, _, cg3, A3, Ar3, An3, Ag3, k3, by rw [e2.1, e2.2, e4], ?_⟩
  refine hS.mono (KS.and (stable_sl (by decide))) fun D w h => ⟨h.1.1, ?_⟩
  have h2 := h.2
  rw [e3] at h2
  exact h2
set_option maxHeartbeats 4000000 in
theorem lawake33_any {w0 w : World} {F : List Fact} {K : (Nat → Prop) → World → Prop} (hS : St w0 w F K) (kt : ∀ D w, K D w → DTab w ∧ D 0) : Calls Tryd.prog 4 #[] w fun e w' => e = .returned (.bool true) ∧ St w0 w' F K := by
  have KS := Lib.hid hS.stable
  go_enter Tryd.func4, Tryd.ntmps4
  go_wp2_with (first
    | (go_at_call 10; refine (hnew_any hS kt).mono ?_; clear hS; rintro e w_ ⟨p, rfl, hS⟩; obtain ⟨q, o, rfl, -⟩ := id hS.ro.2)
    | ((with_reducible show wpList _ _ _ (⟨some 9, _, _, _, _, _⟩ :: _) _ _); refine st_litown hS rfl _ 3 1 _ rfl Tryd.underlying22 #[.int .i64 2] (by kernel_rfl) 1 rfl (by decide) ?_; clear hS; intro g9 w_ hS; (try simp only [Act.put, List.setIfInBounds_toArray, List.set_cons_zero, List.set_cons_succ]))
    | ((with_reducible show wpList _ _ _ (⟨some 10, _, _, _, _, _⟩ :: _) _ _); refine BigFrame.wpList_want rfl fun _ hK => opw_callv (f := 8) (first := #[]) (caps := #[]) (vs := [.slice (some ⟨g9, 0, none⟩) 1 1]) rfl rfl (by kernel_rfl) (by simp [Act.eval, Act.put]) (one_any (l := [2]) (N := 4) (Sl.of_own (hS.own 0 rfl)) (by decide)) fun e w' ⟨x_, he_, hx_, hb_⟩ => ⟨x_, he_, hK _ _ ?_⟩; clear hK; obtain ⟨ya_, na_, rfl, hy_, hn_⟩ := id hx_; obtain ⟨A10, m10, c10, rfl⟩ := hy_.shape; obtain ⟨B10, k10, d10, rfl⟩ := hn_.shape; replace hS := hS.ret hb_ stable_cube hx_; clear hx_ hb_ hy_ hn_ he_; (try simp only [Act.put, List.setIfInBounds_toArray, List.set_cons_zero, List.set_cons_succ]))
    | ((with_reducible show wpList _ _ _ (⟨some 11, _, _, _, _, _⟩ :: _) _ _); refine wpList_build_of rfl _ _ rfl #[.bool false, .slice A10 m10 c10, .slice B10 k10 d10, .int .i64 1, .int .i64 0] (by kernel_rfl) ?_; (try simp only [Act.put, List.setIfInBounds_toArray, List.set_cons_zero, List.set_cons_succ]))
    | ((with_reducible show wpList _ _ _ (⟨some 12, _, _, _, _, _⟩ :: _) _ _); refine wpList_build_of rfl _ _ rfl #[.bool false, .slice none 0 0, .slice none 0 0, .int .i64 2, .int .i64 0] (by kernel_rfl) ?_; (try simp only [Act.put, List.setIfInBounds_toArray, List.set_cons_zero, List.set_cons_succ]))
    | ((with_reducible show wpList _ _ _ (⟨some 14, _, _, _, _, _⟩ :: _) _ _); refine st_litown hS rfl _ 3 1 _ rfl Tryd.underlying22 #[.int .i64 1] (by kernel_rfl) 1 rfl (by decide) ?_; clear hS; intro g14 w_ hS; (try simp only [Act.put, List.setIfInBounds_toArray, List.set_cons_zero, List.set_cons_succ]))
    | ((with_reducible show wpList _ _ _ (⟨some 15, _, _, _, _, _⟩ :: _) _ _); refine BigFrame.wpList_want rfl fun _ hK => opw_callv (f := 8) (first := #[]) (caps := #[]) (vs := [.slice (some ⟨g14, 0, none⟩) 1 1]) rfl rfl (by kernel_rfl) (by simp [Act.eval, Act.put]) (one_any (l := [1]) (N := 2) (Sl.of_own (hS.own 0 rfl)) (by decide)) fun e w' ⟨x_, he_, hx_, hb_⟩ => ⟨x_, he_, hK _ _ ?_⟩; clear hK; obtain ⟨ya_, na_, rfl, hy_, hn_⟩ := id hx_; obtain ⟨A15, m15, c15, rfl⟩ := hy_.shape; obtain ⟨B15, k15, d15, rfl⟩ := hn_.shape; replace hS := hS.ret hb_ stable_cube hx_; clear hx_ hb_ hy_ hn_ he_; (try simp only [Act.put, List.setIfInBounds_toArray, List.set_cons_zero, List.set_cons_succ]))
    | ((with_reducible show wpList _ _ _ (⟨some 16, _, _, _, _, _⟩ :: _) _ _); refine wpList_build_of rfl _ _ rfl #[.bool false, .slice A15 m15 c15, .slice B15 k15 d15, .int .i64 3, .int .i64 0] (by kernel_rfl) ?_; (try simp only [Act.put, List.setIfInBounds_toArray, List.set_cons_zero, List.set_cons_succ]))
    | ((with_reducible show wpList _ _ _ (⟨some 17, _, _, _, _, _⟩ :: _) _ _); refine wpList_build_of rfl _ _ rfl #[.bool true, .slice none 0 0, .slice none 0 0, .int .i64 4, .int .i64 0] (by kernel_rfl) ?_; (try simp only [Act.put, List.setIfInBounds_toArray, List.set_cons_zero, List.set_cons_succ]))
    | ((with_reducible show wpList _ _ _ (⟨some 18, _, _, _, _, _⟩ :: _) _ _); refine st_litp hS rfl _ 39 4 _ rfl Tryd.underlying40 [(0, .agg #[.bool false, .slice A10 m10 c10, .slice B10 k10 d10, .int .i64 1, .int .i64 0]), (1, .agg #[.bool false, .slice none 0 0, .slice none 0 0, .int .i64 2, .int .i64 0]), (2, .agg #[.bool false, .slice A15 m15 c15, .slice B15 k15 d15, .int .i64 3, .int .i64 0]), (3, .agg #[.bool true, .slice none 0 0, .slice none 0 0, .int .i64 4, .int .i64 0])] (by simp [Act.eval]) #[.bool false, .slice A10 m10 c10, .slice B10 k10 d10, .int .i64 1, .int .i64 0, .bool false, .slice none 0 0, .slice none 0 0, .int .i64 2, .int .i64 0, .bool false, .slice A15 m15 c15, .slice B15 k15 d15, .int .i64 3, .int .i64 0, .bool true, .slice none 0 0, .slice none 0 0, .int .i64 4, .int .i64 0] (by kernel_rfl) 5 rfl (by decide) ?_; clear hS; intro g18 w_ hS; (try simp only [Act.put, List.setIfInBounds_toArray, List.set_cons_zero, List.set_cons_succ]))
    | ((with_reducible show wpList _ _ _ (⟨some 20, _, _, _, _, _⟩ :: _) _ _); refine st_litown hS rfl _ 3 2 _ rfl Tryd.underlying22 #[.int .i64 2, .int .i64 5] (by kernel_rfl) 1 rfl (by decide) ?_; clear hS; intro g20 w_ hS; (try simp only [Act.put, List.setIfInBounds_toArray, List.set_cons_zero, List.set_cons_succ]))
    | ((with_reducible show wpList _ _ _ (⟨some 21, _, _, _, _, _⟩ :: _) _ _); refine BigFrame.wpList_want rfl fun _ hK => opw_callv (f := 8) (first := #[]) (caps := #[]) (vs := [.slice (some ⟨g20, 0, none⟩) 2 2]) rfl rfl (by kernel_rfl) (by simp [Act.eval, Act.put]) (one_any (l := [2, 5]) (N := 36) (Sl.of_own (hS.own 0 rfl)) (by decide)) fun e w' ⟨x_, he_, hx_, hb_⟩ => ⟨x_, he_, hK _ _ ?_⟩; clear hK; obtain ⟨ya_, na_, rfl, hy_, hn_⟩ := id hx_; obtain ⟨A21, m21, c21, rfl⟩ := hy_.shape; obtain ⟨B21, k21, d21, rfl⟩ := hn_.shape; replace hS := hS.ret hb_ stable_cube hx_; clear hx_ hb_ hy_ hn_ he_; (try simp only [Act.put, List.setIfInBounds_toArray, List.set_cons_zero, List.set_cons_succ]))
    | ((with_reducible show wpList _ _ _ (⟨some 22, _, _, _, _, _⟩ :: _) _ _); refine st_litp hS rfl _ 33 1 _ rfl Tryd.underlying41 [(0, .agg #[.slice A21 m21 c21, .slice B21 k21 d21])] (by simp [Act.eval]) #[.slice A21 m21 c21, .slice B21 k21 d21] (by kernel_rfl) 2 rfl (by decide) ?_; clear hS; intro g22 w_ hS; (try simp only [Act.put, List.setIfInBounds_toArray, List.set_cons_zero, List.set_cons_succ]))
    | ((with_reducible show wpList _ _ _ (⟨some 24, _, _, _, _, _⟩ :: _) _ _); refine st_litown hS rfl _ 3 1 _ rfl Tryd.underlying22 #[.int .i64 1] (by kernel_rfl) 1 rfl (by decide) ?_; clear hS; intro g24 w_ hS; (try simp only [Act.put, List.setIfInBounds_toArray, List.set_cons_zero, List.set_cons_succ]))
    | ((with_reducible show wpList _ _ _ (⟨some 25, _, _, _, _, _⟩ :: _) _ _); refine BigFrame.wpList_want rfl fun _ hK => opw_callv (f := 8) (first := #[]) (caps := #[]) (vs := [.slice (some ⟨g24, 0, none⟩) 1 1]) rfl rfl (by kernel_rfl) (by simp [Act.eval, Act.put]) (one_any (l := [1]) (N := 2) (Sl.of_own (hS.own 0 rfl)) (by decide)) fun e w' ⟨x_, he_, hx_, hb_⟩ => ⟨x_, he_, hK _ _ ?_⟩; clear hK; obtain ⟨ya_, na_, rfl, hy_, hn_⟩ := id hx_; obtain ⟨A25, m25, c25, rfl⟩ := hy_.shape; obtain ⟨B25, k25, d25, rfl⟩ := hn_.shape; replace hS := hS.ret hb_ stable_cube hx_; clear hx_ hb_ hy_ hn_ he_; (try simp only [Act.put, List.setIfInBounds_toArray, List.set_cons_zero, List.set_cons_succ]))
    | ((with_reducible show wpList _ _ _ (⟨some 26, _, _, _, _, _⟩ :: _) _ _); refine st_litp hS rfl _ 33 1 _ rfl Tryd.underlying41 [(0, .agg #[.slice A25 m25 c25, .slice B25 k25 d25])] (by simp [Act.eval]) #[.slice A25 m25 c25, .slice B25 k25 d25] (by kernel_rfl) 2 rfl (by decide) ?_; clear hS; intro g26 w_ hS; (try simp only [Act.put, List.setIfInBounds_toArray, List.set_cons_zero, List.set_cons_succ]))
    | ((with_reducible show wpList _ _ _ (⟨some 27, _, _, _, _, _⟩ :: _) _ _); refine wpList_build_of rfl _ _ rfl #[.int .i64 5, .pointer (some ⟨q, 0, none⟩), .slice none 0 0, .slice (some ⟨g18, 0, none⟩) 4 4, .slice (some ⟨g22, 0, none⟩) 1 1, .slice (some ⟨g26, 0, none⟩) 1 1] (by kernel_rfl) ?_; (try simp only [Act.put, List.setIfInBounds_toArray, List.set_cons_zero, List.set_cons_succ]))
    | ((with_reducible show wpList _ _ _ (⟨some 2, _, _, _, _, _⟩ :: _) _ _); refine st_allocz hS rfl _ rfl (by kernel_rfl) #[.int .i64 0, .pointer none, .slice none 0 0, .slice none 0 0, .slice none 0 0, .slice none 0 0] (by kernel_rfl) ?_; clear hS; intro g2 w_ hS; (try simp only [Act.put, Act.eval, List.set_cons_zero, List.set_cons_succ, List.setIfInBounds_toArray, Array.getD_eq_getD_getElem?, List.getElem?_toArray, List.getElem?_cons_succ, List.getElem?_cons_zero, Option.getD_some, Value.cells] at hS))
    | ((with_reducible show wpList _ _ _ (⟨_, .store _ _ _, _, _, _, _⟩ :: _) _ _); (first | (refine st_store hS 0 rfl _ _ _ rfl _ _ rfl rfl _ _ rfl (by kernel_rfl) (by kernel_rfl) (by kernel_rfl) ?_) | (refine st_store hS 1 rfl _ _ _ rfl _ _ rfl rfl _ _ rfl (by kernel_rfl) (by kernel_rfl) (by kernel_rfl) ?_) | (refine st_store hS 2 rfl _ _ _ rfl _ _ rfl rfl _ _ rfl (by kernel_rfl) (by kernel_rfl) (by kernel_rfl) ?_) | (refine st_store hS 3 rfl _ _ _ rfl _ _ rfl rfl _ _ rfl (by kernel_rfl) (by kernel_rfl) (by kernel_rfl) ?_) | (refine st_cstore hS 0 rfl _ _ _ rfl _ _ _ rfl rfl rfl (by first | (simp; done) | (simp; omega) | exact of_decide_eq_true (by kernel_rfl)) rfl (by first | rfl | assumption) (by kernel_rfl) ?_) | (refine st_cstore hS 1 rfl _ _ _ rfl _ _ _ rfl rfl rfl (by first | (simp; done) | (simp; omega) | exact of_decide_eq_true (by kernel_rfl)) rfl (by first | rfl | assumption) (by kernel_rfl) ?_) | (refine st_cstore hS 2 rfl _ _ _ rfl _ _ _ rfl rfl rfl (by first | (simp; done) | (simp; omega) | exact of_decide_eq_true (by kernel_rfl)) rfl (by first | rfl | assumption) (by kernel_rfl) ?_) | (refine st_cstore hS 3 rfl _ _ _ rfl _ _ _ rfl rfl rfl (by first | (simp; done) | (simp; omega) | exact of_decide_eq_true (by kernel_rfl)) rfl (by first | rfl | assumption) (by kernel_rfl) ?_)); clear hS; intro w_ hS; (try simp only [Act.put, Act.eval, List.set_cons_zero, List.set_cons_succ, List.setIfInBounds_toArray, Array.getD_eq_getD_getElem?, List.getElem?_toArray, List.getElem?_cons_succ, List.getElem?_cons_zero, Option.getD_some, Value.cells] at hS))
    | ((with_reducible show wpList _ _ _ (⟨some 29, _, _, _, _, _⟩ :: _) _ _)
       replace hS := ((hS.freeze 1 (by decide) rfl).freeze 2 (by decide) rfl).freeze 3 (by decide) rfl
       obtain ⟨K1, k0, kp1, hS2⟩ : ∃ K1 : (Nat → Prop) → World → Prop, (∀ D w, K1 D w → K D w) ∧ (∀ D w, K1 D w → IsProb w D (.agg #[.int .i64 5, .pointer (some ⟨q, 0, none⟩), .slice none 0 0, .slice (some ⟨g18, 0, none⟩) 4 4, .slice (some ⟨g22, 0, none⟩) 1 1, .slice (some ⟨g26, 0, none⟩) 1 1]) P1) ∧ St w0 w_ (.box g2 43 #[.int .i64 5, .pointer (some ⟨q, 0, none⟩), .slice none 0 0, .slice (some ⟨g18, 0, none⟩) 4 4, .slice (some ⟨g22, 0, none⟩) 1 1, .slice (some ⟨g26, 0, none⟩) 1 1] :: F) K1 :=
         ⟨_, fun D w h => h.1.1.1.1.1.1.1.1, fun D w h => ⟨_, _, _, _, _, rfl, h.1.1.1.1.1.1.1.2, IsSet.empty, ⟨_, h.2, rcells1 h.1.1.1.1.1.1.2 h.1.1.1.1.1.2⟩, ⟨_, h.1.2, cc1 h.1.1.1.1.2⟩, _, h.1.1.2, cc1 h.1.1.1.2⟩, hS.sub (.cons_cons _ ((((List.sublist_cons_self _ _).trans (List.sublist_cons_self _ _)).trans (List.sublist_cons_self _ _)).trans (List.sublist_cons_self _ _)))⟩
       clear hS
       have hS := hS2
       clear hS2
       refine BigFrame.wpList_want rfl fun _ hK => opw_row rfl rfl (hS.box 0 rfl) Tryd.underlying43 rfl (by kernel_rfl) (hK _ _ ?_)))
  refine (of1_any hS kp1 (fun D w h => (kt D w (k0 D w h)).1)).mono ?_
  clear hS
  rintro e w3 ⟨R3, q3, n3, c3, cr3, cn3, ng3, cg3, A3, Ar3, An3, Ag3, k3, rfl, hS⟩
  obtain ⟨K3, j0, jk, hS2⟩ : ∃ K3 : (Nat → Prop) → World → Prop, (∀ D w, K3 D w → K1 D w) ∧ (∀ D w, K3 D w → Sl w D 1 k3 ([0, 1] : List Int).length (ints [0, 1])) ∧ St w0 w3 (.box g2 43 #[.int .i64 5, .pointer (some ⟨q, 0, none⟩), .slice none 0 0, .slice (some ⟨g18, 0, none⟩) 4 4, .slice (some ⟨g22, 0, none⟩) 1 1, .slice (some ⟨g26, 0, none⟩) 1 1] :: F) K3 := ⟨_, fun D w h => h.1, fun D w h => h.2, hS⟩
  clear hS
  have hS := hS2
  clear hS2
  have hj := Lib.hid fun D w h => kt D w (k0 D w (j0 D w h))
  go_wp2_with (first
    | ((with_reducible show wpList _ _ _ (⟨some 3, _, _, _, _, _⟩ :: _) _ _); refine st_allocz hS rfl _ rfl (by kernel_rfl) #[.int .i64 0, .pointer none, .slice none 0 0, .slice none 0 0, .slice none 0 0, .slice none 0 0] (by kernel_rfl) ?_; clear hS; intro g3 w_ hS; (try simp only [Act.put, Act.eval, List.set_cons_zero, List.set_cons_succ, List.setIfInBounds_toArray, Array.getD_eq_getD_getElem?, List.getElem?_toArray, List.getElem?_cons_succ, List.getElem?_cons_zero, Option.getD_some, Value.cells] at hS))
    | (go_at_call 10; refine (hnew_any hS hj.out).mono ?_; clear hS; rintro e w_ ⟨p, rfl, hS⟩; obtain ⟨q4, o4, rfl, -⟩ := id hS.ro.2)
    | ((with_reducible show wpList _ _ _ (⟨some 35, _, _, _, _, _⟩ :: _) _ _); refine st_litown hS rfl _ 3 1 _ rfl Tryd.underlying22 #[.int .i64 2] (by kernel_rfl) 1 rfl (by decide) ?_; clear hS; intro g35 w_ hS; (try simp only [Act.put, List.setIfInBounds_toArray, List.set_cons_zero, List.set_cons_succ]))
    | (go_at_call 9; refine (of_any _ [2] _ _ (Sl.of_own (hS.own 0 rfl))).mono ?_; rw [show ofN [2] = 4 from by decide]; rintro r_ w_ ⟨_, rfl, h1, hb_⟩; replace hS := hS.ret hb_ stable_set h1; clear h1 hb_; obtain ⟨A36, c36, l36, rfl, -⟩ := hS.ro.2.parts; obtain ⟨n36, hn36⟩ : ∃ n, n = l36.length := ⟨_, rfl⟩; rw [← hn36] at hS ⊢; clear hn36)
    | ((with_reducible show wpList _ _ _ (⟨some 38, _, _, _, _, _⟩ :: _) _ _); refine st_litown hS rfl _ 3 2 _ rfl Tryd.underlying22 #[.int .i64 2, .int .i64 3] (by kernel_rfl) 1 rfl (by decide) ?_; clear hS; intro g38 w_ hS; (try simp only [Act.put, List.setIfInBounds_toArray, List.set_cons_zero, List.set_cons_succ]))
    | ((with_reducible show wpList _ _ _ (⟨some 39, _, _, _, _, _⟩ :: _) _ _); refine BigFrame.wpList_want rfl fun _ hK => opw_callv (f := 8) (first := #[]) (caps := #[]) (vs := [.slice (some ⟨g38, 0, none⟩) 2 2]) rfl rfl (by kernel_rfl) (by simp [Act.eval, Act.put]) (one_any (l := [2, 3]) (N := 12) (Sl.of_own (hS.own 0 rfl)) (by decide)) fun e w' ⟨x_, he_, hx_, hb_⟩ => ⟨x_, he_, hK _ _ ?_⟩; clear hK; obtain ⟨ya_, na_, rfl, hy_, hn_⟩ := id hx_; obtain ⟨A39, m39, c39, rfl⟩ := hy_.shape; obtain ⟨B39, k39, d39, rfl⟩ := hn_.shape; replace hS := hS.ret hb_ stable_cube hx_; clear hx_ hb_ hy_ hn_ he_; (try simp only [Act.put, List.setIfInBounds_toArray, List.set_cons_zero, List.set_cons_succ]))
    | ((with_reducible show wpList _ _ _ (⟨some 40, _, _, _, _, _⟩ :: _) _ _); refine wpList_build_of rfl _ _ rfl #[.bool false, .slice A39 m39 c39, .slice B39 k39 d39, .int .i64 1, .int .i64 0] (by kernel_rfl) ?_; (try simp only [Act.put, List.setIfInBounds_toArray, List.set_cons_zero, List.set_cons_succ]))
    | ((with_reducible show wpList _ _ _ (⟨some 41, _, _, _, _, _⟩ :: _) _ _); refine st_litp hS rfl _ 39 1 _ rfl Tryd.underlying40 [(0, .agg #[.bool false, .slice A39 m39 c39, .slice B39 k39 d39, .int .i64 1, .int .i64 0])] (by simp [Act.eval]) #[.bool false, .slice A39 m39 c39, .slice B39 k39 d39, .int .i64 1, .int .i64 0] (by kernel_rfl) 5 rfl (by decide) ?_; clear hS; intro g41 w_ hS; (try simp only [Act.put, List.setIfInBounds_toArray, List.set_cons_zero, List.set_cons_succ]))
    | ((with_reducible show wpList _ _ _ (⟨some 43, _, _, _, _, _⟩ :: _) _ _); refine st_litown hS rfl _ 3 1 _ rfl Tryd.underlying22 #[.int .i64 1] (by kernel_rfl) 1 rfl (by decide) ?_; clear hS; intro g43 w_ hS; (try simp only [Act.put, List.setIfInBounds_toArray, List.set_cons_zero, List.set_cons_succ]))
    | ((with_reducible show wpList _ _ _ (⟨some 44, _, _, _, _, _⟩ :: _) _ _); refine BigFrame.wpList_want rfl fun _ hK => opw_callv (f := 8) (first := #[]) (caps := #[]) (vs := [.slice (some ⟨g43, 0, none⟩) 1 1]) rfl rfl (by kernel_rfl) (by simp [Act.eval, Act.put]) (one_any (l := [1]) (N := 2) (Sl.of_own (hS.own 0 rfl)) (by decide)) fun e w' ⟨x_, he_, hx_, hb_⟩ => ⟨x_, he_, hK _ _ ?_⟩; clear hK; obtain ⟨ya_, na_, rfl, hy_, hn_⟩ := id hx_; obtain ⟨A44, m44, c44, rfl⟩ := hy_.shape; obtain ⟨B44, k44, d44, rfl⟩ := hn_.shape; replace hS := hS.ret hb_ stable_cube hx_; clear hx_ hb_ hy_ hn_ he_; (try simp only [Act.put, List.setIfInBounds_toArray, List.set_cons_zero, List.set_cons_succ]))
    | ((with_reducible show wpList _ _ _ (⟨some 45, _, _, _, _, _⟩ :: _) _ _); refine st_litp hS rfl _ 33 1 _ rfl Tryd.underlying41 [(0, .agg #[.slice A44 m44 c44, .slice B44 k44 d44])] (by simp [Act.eval]) #[.slice A44 m44 c44, .slice B44 k44 d44] (by kernel_rfl) 2 rfl (by decide) ?_; clear hS; intro g45 w_ hS; (try simp only [Act.put, List.setIfInBounds_toArray, List.set_cons_zero, List.set_cons_succ]))
    | ((with_reducible show wpList _ _ _ (⟨some 46, _, _, _, _, _⟩ :: _) _ _); refine wpList_build_of rfl _ _ rfl #[.int .i64 5, .pointer (some ⟨q4, 0, none⟩), .slice A36 n36 c36, .slice (some ⟨g41, 0, none⟩) 1 1, .slice none 0 0, .slice (some ⟨g45, 0, none⟩) 1 1] (by kernel_rfl) ?_; (try simp only [Act.put, List.setIfInBounds_toArray, List.set_cons_zero, List.set_cons_succ]))
    | ((with_reducible show wpList _ _ _ (⟨some 6, _, _, _, _, _⟩ :: _) _ _); refine st_allocz hS rfl _ rfl (by kernel_rfl) #[.int .i64 0, .pointer none, .slice none 0 0, .slice none 0 0, .slice none 0 0, .slice none 0 0] (by kernel_rfl) ?_; clear hS; intro g6 w_ hS; (try simp only [Act.put, Act.eval, List.set_cons_zero, List.set_cons_succ, List.setIfInBounds_toArray, Array.getD_eq_getD_getElem?, List.getElem?_toArray, List.getElem?_cons_succ, List.getElem?_cons_zero, Option.getD_some, Value.cells] at hS))
    | ((with_reducible show wpList _ _ _ (⟨_, .store _ _ _, _, _, _, _⟩ :: _) _ _); (first | (refine st_store hS 0 rfl _ _ _ rfl _ _ rfl rfl _ _ rfl (by kernel_rfl) (by kernel_rfl) (by kernel_rfl) ?_) | (refine st_store hS 1 rfl _ _ _ rfl _ _ rfl rfl _ _ rfl (by kernel_rfl) (by kernel_rfl) (by kernel_rfl) ?_) | (refine st_store hS 2 rfl _ _ _ rfl _ _ rfl rfl _ _ rfl (by kernel_rfl) (by kernel_rfl) (by kernel_rfl) ?_) | (refine st_store hS 3 rfl _ _ _ rfl _ _ rfl rfl _ _ rfl (by kernel_rfl) (by kernel_rfl) (by kernel_rfl) ?_) | (refine st_cstore hS 0 rfl _ _ _ rfl _ _ _ rfl rfl rfl (by first | (simp; done) | (simp; omega) | exact of_decide_eq_true (by kernel_rfl)) rfl (by first | rfl | assumption) (by kernel_rfl) ?_) | (refine st_cstore hS 1 rfl _ _ _ rfl _ _ _ rfl rfl rfl (by first | (simp; done) | (simp; omega) | exact of_decide_eq_true (by kernel_rfl)) rfl (by first | rfl | assumption) (by kernel_rfl) ?_) | (refine st_cstore hS 2 rfl _ _ _ rfl _ _ _ rfl rfl rfl (by first | (simp; done) | (simp; omega) | exact of_decide_eq_true (by kernel_rfl)) rfl (by first | rfl | assumption) (by kernel_rfl) ?_) | (refine st_cstore hS 3 rfl _ _ _ rfl _ _ _ rfl rfl rfl (by first | (simp; done) | (simp; omega) | exact of_decide_eq_true (by kernel_rfl)) rfl (by first | rfl | assumption) (by kernel_rfl) ?_)); clear hS; intro w_ hS; (try simp only [Act.put, Act.eval, List.set_cons_zero, List.set_cons_succ, List.setIfInBounds_toArray, Array.getD_eq_getD_getElem?, List.getElem?_toArray, List.getElem?_cons_succ, List.getElem?_cons_zero, Option.getD_some, Value.cells] at hS))
    | ((with_reducible show wpList _ _ _ (⟨some 50, _, _, _, _, _⟩ :: _) _ _)
       replace hS := (hS.freeze 1 (by decide) rfl).freeze 2 (by decide) rfl
       obtain ⟨K5, m0, kp2, hS2⟩ : ∃ K5 : (Nat → Prop) → World → Prop, (∀ D w, K5 D w → K3 D w) ∧ (∀ D w, K5 D w → IsProb w D (.agg #[.int .i64 5, .pointer (some ⟨q4, 0, none⟩), .slice A36 n36 c36, .slice (some ⟨g41, 0, none⟩) 1 1, .slice none 0 0, .slice (some ⟨g45, 0, none⟩) 1 1]) P2) ∧ St w0 w_ (.box g6 43 #[.int .i64 5, .pointer (some ⟨q4, 0, none⟩), .slice A36 n36 c36, .slice (some ⟨g41, 0, none⟩) 1 1, .slice none 0 0, .slice (some ⟨g45, 0, none⟩) 1 1] :: .box g3 43 #[.int .i64 R3, .pointer (some ⟨q3, 0, none⟩), .slice A3 n3 c3, .slice Ar3 2 cr3, .slice An3 1 cn3, .slice Ag3 ng3 cg3] :: .box g2 43 #[.int .i64 5, .pointer (some ⟨q, 0, none⟩), .slice none 0 0, .slice (some ⟨g18, 0, none⟩) 4 4, .slice (some ⟨g22, 0, none⟩) 1 1, .slice (some ⟨g26, 0, none⟩) 1 1] :: F) K5 :=
         ⟨_, fun D w h => h.1.1.1.1.1.1, fun D w h => ⟨_, _, _, _, _, rfl, h.1.1.1.1.1.2, h.1.1.1.1.2, ⟨_, h.2, RuleCells.single (z := ⟨false, 12, 0, 1, 0⟩) h.1.1.1.2.sets.1 h.1.1.1.2.sets.2⟩, ⟨[], Sl.none_, fun i y n hi => by simp [P2] at hi⟩, _, h.1.2, cc1 h.1.1.2⟩, hS.sub (.cons_cons _ (((List.sublist_cons_self _ _).trans (List.sublist_cons_self _ _)).trans (List.sublist_cons_self _ _)))⟩
       clear hS
       have hS := hS2
       clear hS2
       refine BigFrame.wpList_want rfl fun _ hK => opw_row rfl rfl (hS.box 2 rfl) Tryd.underlying43 rfl (by kernel_rfl) (hK _ _ ?_)))
  have hkp : ∀ D w, K5 D w → IsProb w D (.agg #[.int .i64 5, .pointer (some ⟨q, 0, none⟩), .slice none 0 0, .slice (some ⟨g18, 0, none⟩) 4 4, .slice (some ⟨g22, 0, none⟩) 1 1, .slice (some ⟨g26, 0, none⟩) 1 1]) P1 := fun D w h => kp1 D w (j0 D w (m0 D w h))
  have hkt : ∀ D w, K5 D w → DTab w := fun D w h => (kt D w (k0 D w (j0 D w (m0 D w h)))).1
  have hjk : ∀ D w, K5 D w → Sl w D 1 k3 ([0, 1] : List Int).length (ints [0, 1]) := fun D w h => jk D w (m0 D w h)
  refine (relevant_any (hkp _ _ hS.ro) ok1 (hkt _ _ hS.ro)).mono ?_
  rw [relS1]
  rintro r_ w7 ⟨_, rfl, h1, hb_⟩
  replace hS := hS.ret hb_ stable_set h1
  clear h1 hb_
  go_wp2_with (first
    | ((with_reducible show wpList _ _ _ (⟨some 52, _, _, _, _, _⟩ :: _) _ _); refine st_litg hS rfl _ 3 3 _ rfl Tryd.underlying22 #[.int .i64 1, .int .i64 2, .int .i64 5] (by kernel_rfl) 1 rfl (by decide) ?_; clear hS; intro g52 w_ hS; (try simp only [Act.put, List.setIfInBounds_toArray, List.set_cons_zero, List.set_cons_succ]))
    | (go_at_call 9; refine (of_any _ [1, 2, 5] _ _ (Sl.of_own (hS.own 0 rfl))).mono ?_; rw [show ofN [1, 2, 5] = 38 from by decide]; rintro r_ w_ ⟨_, rfl, h1, hb_⟩; replace hS := hS.ret hb_ stable_set h1; clear h1 hb_)
    | (go_at_call 13; refine (equal_any _ _ 38 38 _ _ _ hS.ro.1.2 hS.ro.2).mono ?_; rintro r_ w_ ⟨_, rfl, rfl, hb_⟩; rw [show ((38 : Nat) == 38) = true from rfl]; replace hS := hS.ext hb_; clear hb_)
    | ((with_reducible show wpList _ _ _ (⟨some 58, _, _, _, _, _⟩ :: _) _ _); refine st_litg hS rfl _ 3 2 _ rfl Tryd.underlying22 #[.int .i64 0, .int .i64 1] (by kernel_rfl) 1 rfl (by decide) ?_; clear hS; intro g58 w_ hS; (try simp only [Act.put, List.setIfInBounds_toArray, List.set_cons_zero, List.set_cons_succ])))
  refine (sleq_any _ _ [0, 1] [0, 1] _ _ _ (hjk _ _ hS.ro.1.1) (Sl.of_own (hS.own 0 rfl))).mono ?_
  rintro r_ w8 ⟨_, rfl, rfl, hb_⟩
  rw [show (([0, 1] : List Int) == [0, 1]) = true from rfl]
  replace hS := hS.ext hb_
  clear hb_
  go_wp2_with (first
    | ((with_reducible show wpList _ _ _ (⟨_, .load _ _, _, _, _, _⟩ :: _) _ _); first | (refine st_cell hS 0 rfl _ _ rfl _ _ rfl _ _ rfl (by decide +kernel) _ (by first | assumption | rfl) ?_) | (refine st_cell hS 1 rfl _ _ rfl _ _ rfl _ _ rfl (by decide +kernel) _ (by first | assumption | rfl) ?_) | (refine st_cell hS 2 rfl _ _ rfl _ _ rfl _ _ rfl (by decide +kernel) _ (by first | assumption | rfl) ?_) | (refine st_cell hS 3 rfl _ _ rfl _ _ rfl _ _ rfl (by decide +kernel) _ (by first | assumption | rfl) ?_) | (refine st_cell hS 4 rfl _ _ rfl _ _ rfl _ _ rfl (by decide +kernel) _ (by first | assumption | rfl) ?_) | (refine st_cell hS 5 rfl _ _ rfl _ _ rfl _ _ rfl (by decide +kernel) _ (by first | assumption | rfl) ?_) | (refine st_cell hS 6 rfl _ _ rfl _ _ rfl _ _ rfl (by decide +kernel) _ (by first | assumption | rfl) ?_) | (refine st_cell hS 7 rfl _ _ rfl _ _ rfl _ _ rfl (by decide +kernel) _ (by first | assumption | rfl) ?_))
    | ((with_reducible show wpList _ _ _ (⟨some 74, _, _, _, _, _⟩ :: _) _ _); refine BigFrame.wpList_want rfl fun _ hK => opw_row rfl rfl (hS.box 2 rfl) Tryd.underlying43 rfl (by kernel_rfl) (hK _ _ ?_))
    | (go_at_call 14; refine (useless_any (kp2 _ _ hS.ro.1.1) ok2 (hkt _ _ hS.ro.1.1)).mono ?_; rw [use2]; rintro e_ w_ ⟨u9, rfl, hs⟩; replace hS := hS.new hs.below (.own u9 3 1 ([0] : List Int).length (ints [0])) (hs.own 0 rfl); clear hs)
    | ((with_reducible show wpList _ _ _ (⟨some 76, _, _, _, _, _⟩ :: _) _ _); refine st_litg hS rfl _ 3 1 _ rfl Tryd.underlying22 #[.int .i64 0] (by kernel_rfl) 1 rfl (by decide) ?_; clear hS; intro g76 w_ hS; (try simp only [Act.put, List.setIfInBounds_toArray, List.set_cons_zero, List.set_cons_succ]))
    | (go_at_call 7; refine (sleq_any _ _ [0] [0] _ _ _ (Sl.of_own (hS.own 1 rfl)) (Sl.of_own (hS.own 0 rfl))).mono ?_; rintro r_ w_ ⟨_, rfl, rfl, hb_⟩; rw [show (([0] : List Int) == [0]) = true from rfl]; replace hS := hS.ext hb_; clear hb_))
  go_ret
  exact ⟨rfl, (hS.sub (.cons _ (.cons _ (.cons _ (.cons _ (.cons _ (.cons _ (.cons _ (List.Sublist.refl _))))))))).mono KS.out fun D w h => k0 _ _ (j0 _ _ (m0 _ _ h.1.1))⟩
end Go.Proofs.YtihpgmbinhmmlaaDoor
namespace Go.Proofs.YtihpgmbinhmmlaaDoor
open Go.RowKit
attribute [local go_sem ↓] Go.wp_at_zero Go.wp_at_succ
set_option maxRecDepth 20000
set_option exponentiation.threshold 5000

theorem opw_min {P : Program} {o : Oper} {a : Act} {w : World} {K : Act → World → Prop} {Q : Exit → Act → World → Prop} {t s : TypeId} {x y : Operand} {n m : Nat} (ho : o.op = .call { callee := .builtin .min, args := #[x, y], argTypes := #[t, s] }) (hx : a.eval x = .int .i64 (n : Nat)) (hy : a.eval y = .int .i64 (m : Nat)) (hk : K (a.put o.dst (.int .i64 (min n m : Nat))) w) : o.wp P a w K Q := by
  have hr : (Builtin.min_ #[t, s] o.type #[.int .i64 (n : Nat), .int .i64 (m : Nat)]).run P w = .ok (.int .i64 (min n m : Nat)) w := by
    rw [Lib.run_min_ints]
    congr 2
    omega
  unfold Oper.wp execOp
  simp only [ho, resolve, invoke, builtin, Sem.run_bind, Sem.run_pure, Result.andThen_ok, List.map_toArray, List.map_cons, List.map_nil, hx, hy, hr]
  exact hk
theorem opw_lenS {P : Program} {o : Oper} {a : Act} {w : World} {K : Act → World → Prop} {Q : Exit → Act → World → Prop} {t e : TypeId} {x : Operand} {n c : Nat} {A : Option Addr} (ho : o.op = .call { callee := .builtin .len, args := #[x], argTypes := #[t] }) (hx : a.eval x = .slice A n c) (h : P.underlying t = some (.slice e)) (hk : K (a.put o.dst (.int .i64 (n : Nat))) w) : o.wp P a w K Q := by
  have hr : (Builtin.len_ #[t] o.type #[.slice A n c]).run P w = .ok (.int .i64 (n : Nat)) w := by
    simp [Builtin.len_, run_underlying h]; rfl
  unfold Oper.wp execOp
  simp only [ho, resolve, invoke, builtin, Sem.run_bind, Sem.run_pure, Result.andThen_ok, List.map_toArray, List.map_cons, List.map_nil, hx, hr]
  exact hk
def BR (a b : World × Unit) : Prop := Below a.1.heap.size a.1 b.1
theorem BR_refl : ∀ w : World × Unit, BR w w := fun _ => Below.refl _ _
theorem BR_trans : ∀ a b c : World × Unit, BR a b → BR b c → BR a c := fun _ _ _ h1 h2 => bel_tr h1 h2
theorem ints_take (l : List Int) (k : Nat) : (ints l).take k = ints (l.take k) := by unfold ints; rw [List.map_take]
theorem ints_one (l : List Int) : ∀ u ∈ ints l, u.oneCell' = true := fun u hu => by
  unfold ints at hu
  obtain ⟨x, -, rfl⟩ := List.mem_map.1 hu
  rfl
theorem Sl.cut {w : World} {D : Nat → Prop} {c : Nat} {A : Option Addr} {l : List Int} (h : Sl w D 1 (.slice A l.length c) l.length (ints l)) (k : Nat) : Sl w D 1 (.slice A (min l.length k) c) (l.take k).length (ints (l.take k)) := by
  have := h.take (k := min l.length k) (by omega)
  rw [ints_take, List.take_eq_take_min, show min (min l.length k) l.length = min k l.length by omega, ← List.take_eq_take_min] at this
  rw [List.length_take, Nat.min_comm k]
  exact this
theorem iclone_any {w0 : World} {D : Nat → Prop} {pv : Value} {n : Nat} {xs : List Value} (h : Sl w0 D 1 pv n xs) (ho : ∀ u ∈ xs, u.oneCell' = true) (hl : n ≤ 1000000) : Calls Tryd.prog 5 #[pv] w0 fun e w' => ∃ v, e = .returned v ∧ St w0 w' [.own v 3 1 n xs] fun _ _ => True := by
  obtain ⟨A, c, rfl, hc1, hc2⟩ := h.shape
  obtain ⟨K, kp, hS⟩ : ∃ K : (Nat → Prop) → World → Prop, (∀ D w, K D w → Sl w D 1 (.slice A n c) n xs) ∧ St w0 w0 [] K := ⟨_, fun _ _ h => h, St.start (stable_sl (by decide)) h⟩
  clear h
  cases A with
  | none =>
    obtain ⟨rfl, rfl⟩ : n = 0 ∧ xs = [] := by
      obtain ⟨h1, A, c2, h2, _, _, h5⟩ := kp _ _ hS.ro
      rcases Nat.eq_zero_or_pos n with h | h
      · subst h; exact ⟨rfl, List.length_eq_zero_iff.1 (by omega)⟩
      · obtain ⟨b, o, h6, _⟩ := h5 h
        injection h2 with h2; rw [← h2] at h6; cases h6
    go_enter Tryd.func5, Tryd.ntmps5
    go_wp2_with (first
      | ((with_reducible show wpList _ _ _ (⟨_, .binOp _ _ _ _ _, _, _, _, _⟩ :: _) _ _); (first | (refine st_lss rfl _ _ _ _ rfl _ _ _ rfl rfl (fun h_ => ?_) (fun h_ => ?_)) | (refine st_leq rfl _ _ _ _ rfl _ _ _ rfl rfl (fun h_ => ?_) (fun h_ => ?_)) | (refine st_gtr rfl _ _ _ _ rfl _ _ _ rfl rfl (fun h_ => ?_) (fun h_ => ?_)) | (refine st_geq rfl _ _ _ _ rfl _ _ _ rfl rfl (fun h_ => ?_) (fun h_ => ?_)) | (refine st_eql rfl _ _ _ _ rfl _ _ _ rfl rfl (fun h_ => ?_) (fun h_ => ?_)) | (refine st_neq rfl _ _ _ _ rfl _ _ _ rfl rfl (fun h_ => ?_) (fun h_ => ?_))) <;> go_prune)
      | ((with_reducible show wpList _ _ _ (⟨some 4, _, _, _, _, _⟩ :: _) _ _); refine BigFrame.wpList_want rfl fun _ hK => opw_bin (vx := .slice none 0 c) (vy := .slice none 0 0) (v := .bool true) rfl rfl rfl rfl (Lib.run_eql_slice_nil _ _ _ _ _ _ _ _ Tryd.underlying22) (hK _ _ ?_)))
    go_ret
    exact ⟨_, rfl, ((hS.nil 3 1)).mono (Stable.pure True) fun _ _ _ => trivial⟩
  | some ad =>
    go_enter Tryd.func5, Tryd.ntmps5
    go_wp2_with (first
      | ((with_reducible show wpList _ _ _ (⟨some 4, _, _, _, _, _⟩ :: _) _ _); refine BigFrame.wpList_want rfl fun _ hK => opw_bin (vx := .slice (some ad) n c) (vy := .slice none 0 0) (v := .bool false) rfl rfl rfl rfl (Lib.run_eql_slice_nil _ _ _ _ _ _ _ _ Tryd.underlying22) (hK _ _ ?_))
      | ((with_reducible show wpList _ _ _ (⟨_, .buildSlice _ 0 _, _, _, _, _⟩ :: _) _ _); refine st_empty hS rfl _ _ rfl Tryd.underlying22 (by kernel_rfl) 1 ?_; clear hS; intro ge w_ hS)
      | ((with_reducible show wpList _ _ _ (⟨some 7, _, _, _, _, _⟩ :: _) _ _); refine st_appf hS 0 rfl _ _ _ rfl ty_ints _ rfl rfl _ _ _ _ rfl (kp _ _ hS.ro) ho (by omega) (by omega) ?_; clear hS; intro g cap w_ hS))
    go_ret
    exact ⟨_, rfl, hS.mono (Stable.pure True) fun _ _ _ => trivial⟩
theorem BackR.bad {w0 w' : World} {l m : List Int} {e : Ending} (h : BackR w0 l m e w') (hg : l.all (goodI m) = false) : e = .returned (.tuple #[.slice none 0 0, .int .i64 2]) ∧ Below w0.heap.size w0 w' := by
  rcases h with h | ⟨h, -⟩
  · exact h.2
  · rw [hg] at h; cases h
theorem BackR.good {w0 w' : World} {l m : List Int} {e : Ending} (h : BackR w0 l m e w') (hg : l.all (goodI m) = true) : ∃ x, e = .returned (.tuple #[x, .int .i64 0]) ∧ St w0 w' [.own x 3 1 (l.map (getI m)).length (ints (l.map (getI m)))] fun _ _ => True := by
  rcases h with ⟨h, -⟩ | h
  · rw [hg] at h; cases h
  · exact h.2
theorem start_ints2 {W : World} {D E : Nat → Prop} {u v : Value} {l m : List Int} (h : DTab W) (hu : Sl W D 1 u l.length (ints l)) (hv : Sl W E 1 v m.length (ints m)) : ∃ K : (Nat → Prop) → World → Prop, (∀ D w, K D w → DTab w ∧ D 0) ∧ (∀ D w, K D w → Sl w D 1 u l.length (ints l)) ∧ (∀ D w, K D w → Sl w D 1 v m.length (ints m)) ∧ St W W [] K :=
  ⟨fun D w => (DTab w ∧ D 0) ∧ Sl w D 1 u l.length (ints l) ∧ Sl w D 1 v m.length (ints m), fun _ _ h => h.1, fun _ _ h => h.2.1, fun _ _ h => h.2.2, St.start (D := fun _ => True) (dtab_stable.and ((stable_sl (by decide)).and (stable_sl (by decide)))) ⟨⟨h, trivial⟩, hu.imp fun _ _ _ => trivial, hv.imp fun _ _ _ => trivial⟩⟩
def wantI (m l : List Int) : List Int := (l.filter (goodI m)).map (getI m)
theorem wantI_all {m l : List Int} (h : l.all (goodI m) = true) : wantI m l = l.map (getI m) := by
  unfold wantI
  rw [List.filter_eq_self.2 (List.all_eq_true.1 h)]
theorem wantI_take {m l : List Int} {k : Nat} (h : k < l.length) : wantI m (l.take (k + 1)) = wantI m (l.take k) ++ (if goodI m (l.getD k 0) then [getI m (l.getD k 0)] else []) ∧ (l.take (k + 1)).all (goodI m) = ((l.take k).all (goodI m) && goodI m (l.getD k 0)) := by
  unfold wantI
  rw [take_getD l k 0 h, List.filter_append, List.map_append, List.all_append]
  constructor
  · congr 1
    generalize l.getD k 0 = x
    by_cases hg : goodI m x = true <;> simp [hg]
  · generalize l.getD k 0 = x
    simp
set_option maxHeartbeats 1000000 in
theorem lback_any (u v : Value) (l m : List Int) (W : World) (D E : Nat → Prop) (hu : Sl W D 1 u l.length (ints l)) (hv : Sl W E 1 v m.length (ints m)) (hT : DTab W) : Calls Tryd.prog 3 #[u, v] W (Ret (fun x _ => x = .bool true) W) := by
  obtain ⟨A, c, rfl, hAc, _⟩ := hu.shape
  obtain ⟨B, d, rfl, hBd, _⟩ := hv.shape
  obtain ⟨K, kt, k1, k2, hS⟩ := start_ints2 hT hu hv
  clear hu hv hT
  go_enter Tryd.func3, Tryd.ntmps3
  go_wp2_with (first
    | (go_at_call 4; refine (lawake33_any hS kt).mono ?_; clear hS; rintro e w_ ⟨rfl, hS⟩))
  have hJ0 := hS.drew
  have hRr := BR_refl
  have hRt := BR_trans
  have hN0 : ∀ _ : Nat, True := fun _ => trivial
  clear hS
  refine wp_region_ghost (fun i__ v w => match i__ with
    | 0 => v = .slice A l.length c
    | 1 => v = .slice A l.length c
    | 2 => v = .int .i64 (l.length : Nat)
    | 3 => v = .int .i64 (min l.length 20 : Nat)
    | 4 => v = .slice A (min l.length 20) c
    | 5 => Sl w.1 (W.heap.size ≤ ·) 1 v (l.take 20).length (ints (l.take 20))
    | 6 => v = .slice B m.length d
    | 7 => v = .slice B m.length d
    | 8 => v = .int .i64 (m.length : Nat)
    | 9 => v = .int .i64 (min m.length 20 : Nat)
    | 10 => v = .slice B (min m.length 20) d
    | 11 => Sl w.1 (W.heap.size ≤ ·) 1 v (m.take 20).length (ints (m.take 20))
    | 12 => Sl w.1 (W.heap.size ≤ ·) 1 v (l.take 20).length (ints (l.take 20))
    | 13 => Sl w.1 (W.heap.size ≤ ·) 1 v (m.take 20).length (ints (m.take 20))
    | _ => True) (BR) (fun _ _ => True) (()) (by kernel_rfl) (by kernel_rfl) hRr hRt ?mono ?hN ⟨?r0, ?r1, ?r2, ?r3, ?r4, ?r5, ?r6, ?r7, ?r8, ?r9, ?r10, ?r11, ?r12, ?r13, trivial⟩ ?post
  case hN => first | assumption | (intro i; (try dsimp only); split <;> first | trivial | assumption | (left; assumption))
  case mono =>
    intro i v w w' h hb
    match i, h with
    | 0, h => exact h
    | 1, h => exact h
    | 2, h => exact h
    | 3, h => exact h
    | 4, h => exact h
    | 5, h => exact h.ext hb
    | 6, h => exact h
    | 7, h => exact h
    | 8, h => exact h
    | 9, h => exact h
    | 10, h => exact h
    | 11, h => exact h.ext hb
    | 12, h => exact Sl.ext h hb
    | 13, h => exact Sl.ext h hb
    | _ + 14, h => trivial
  case r0 =>
    refine truleGh fun b__ w hW hN hold hpre => ⟨fun hwant K hK => ?_, fun hwant => ?_⟩
    · clear hwant
      have e0 : b__.eval (.tmp 0) = .slice A l.length c := (hold 0 (by kernel_rfl)).trans rfl
      exact opw_move rfl e0 (hK _ _ rfl ⟨hRr _, fun _ _ h => h⟩)
    · rw [want_none rfl] at hwant; cases hwant
  case r1 =>
    refine truleGh fun b__ w hW hN hold hpre => ⟨fun hwant K hK => ?_, fun hwant => ?_⟩
    · clear hwant
      have e0 : b__.eval (.tmp 0) = .slice A l.length c := (hold 0 (by kernel_rfl)).trans rfl
      exact opw_move rfl e0 (hK _ _ rfl ⟨hRr _, fun _ _ h => h⟩)
    · rw [want_none rfl] at hwant; cases hwant
  case r2 =>
    refine truleGh fun b__ w hW hN hold hpre => ⟨fun hwant K hK => ?_, fun hwant => ?_⟩
    · clear hwant
      have e14 : b__.eval (.tmp 14) = .slice A l.length c := hpre ⟨1, _⟩ (Array.mem_of_getElem? (i := 0) rfl) rfl _ _ rfl rfl
      exact opw_lenS rfl e14 Tryd.underlying22 (hK _ _ rfl ⟨hRr _, fun _ _ h => h⟩)
    · rw [want_none rfl] at hwant; cases hwant
  case r3 =>
    refine truleGh fun b__ w hW hN hold hpre => ⟨fun hwant K hK => ?_, fun hwant => ?_⟩
    · clear hwant
      have e15 : b__.eval (.tmp 15) = .int .i64 (l.length : Nat) := hpre ⟨2, _⟩ (Array.mem_of_getElem? (i := 0) rfl) rfl _ _ rfl rfl
      exact opw_min (m := 20) rfl e15 rfl (hK _ _ rfl ⟨hRr _, fun _ _ h => h⟩)
    · rw [want_none rfl] at hwant; cases hwant
  case r4 =>
    refine truleGh fun b__ w hW hN hold hpre => ⟨fun hwant K hK => ?_, fun hwant => ?_⟩
    · clear hwant
      have e13 : b__.eval (.tmp 13) = .slice A l.length c := hpre ⟨0, _⟩ (Array.mem_of_getElem? (i := 0) rfl) rfl _ _ rfl rfl
      have e16 : b__.eval (.tmp 16) = .int .i64 (min l.length 20 : Nat) := hpre ⟨3, _⟩ (Array.mem_of_getElem? (i := 1) rfl) rfl _ _ rfl rfl
      exact opw_slh rfl Tryd.underlying22 ⟨1, by kernel_rfl⟩ e13 e16 (by omega) (hK _ _ rfl ⟨hRr _, fun _ _ h => h⟩)
    · rw [want_none rfl] at hwant; cases hwant
  case r5 =>
    refine truleGh fun b__ w hW hN hold hpre => ⟨fun hwant K hK => ?_, fun hwant => ?_⟩
    · clear hwant
      have e17 : b__.eval (.tmp 17) = .slice A (min l.length 20) c := hpre ⟨4, _⟩ (Array.mem_of_getElem? (i := 0) rfl) rfl _ _ rfl rfl
      exact opw_callw rfl (by kernel_rfl) (by simp only [List.map_cons, List.map_nil, e17]) (iclone_any ((k1 _ _ (hJ0.ext hW).ro).cut 20) (ints_one _) (by simp; omega)) fun e w' ⟨v, he, hs⟩ => ⟨v, he, hK v (w', ()) ((Sl.of_own (hs.own 0 rfl)).imp fun z hz _ => Nat.le_trans (hJ0.ext hW).size hz) ⟨hs.below, fun _ _ h => h⟩⟩
    · rw [want_none rfl] at hwant; cases hwant
  case r6 =>
    refine truleGh fun b__ w hW hN hold hpre => ⟨fun hwant K hK => ?_, fun hwant => ?_⟩
    · clear hwant
      have e1 : b__.eval (.tmp 1) = .slice B m.length d := (hold 1 (by kernel_rfl)).trans rfl
      exact opw_move rfl e1 (hK _ _ rfl ⟨hRr _, fun _ _ h => h⟩)
    · rw [want_none rfl] at hwant; cases hwant
  case r7 =>
    refine truleGh fun b__ w hW hN hold hpre => ⟨fun hwant K hK => ?_, fun hwant => ?_⟩
    · clear hwant
      have e1 : b__.eval (.tmp 1) = .slice B m.length d := (hold 1 (by kernel_rfl)).trans rfl
      exact opw_move rfl e1 (hK _ _ rfl ⟨hRr _, fun _ _ h => h⟩)
    · rw [want_none rfl] at hwant; cases hwant
  case r8 =>
    refine truleGh fun b__ w hW hN hold hpre => ⟨fun hwant K hK => ?_, fun hwant => ?_⟩
    · clear hwant
      have e20 : b__.eval (.tmp 20) = .slice B m.length d := hpre ⟨7, _⟩ (Array.mem_of_getElem? (i := 0) rfl) rfl _ _ rfl rfl
      exact opw_lenS rfl e20 Tryd.underlying22 (hK _ _ rfl ⟨hRr _, fun _ _ h => h⟩)
    · rw [want_none rfl] at hwant; cases hwant
  case r9 =>
    refine truleGh fun b__ w hW hN hold hpre => ⟨fun hwant K hK => ?_, fun hwant => ?_⟩
    · clear hwant
      have e21 : b__.eval (.tmp 21) = .int .i64 (m.length : Nat) := hpre ⟨8, _⟩ (Array.mem_of_getElem? (i := 0) rfl) rfl _ _ rfl rfl
      exact opw_min (m := 20) rfl e21 rfl (hK _ _ rfl ⟨hRr _, fun _ _ h => h⟩)
    · rw [want_none rfl] at hwant; cases hwant
  case r10 =>
    refine truleGh fun b__ w hW hN hold hpre => ⟨fun hwant K hK => ?_, fun hwant => ?_⟩
    · clear hwant
      have e19 : b__.eval (.tmp 19) = .slice B m.length d := hpre ⟨6, _⟩ (Array.mem_of_getElem? (i := 0) rfl) rfl _ _ rfl rfl
      have e22 : b__.eval (.tmp 22) = .int .i64 (min m.length 20 : Nat) := hpre ⟨9, _⟩ (Array.mem_of_getElem? (i := 1) rfl) rfl _ _ rfl rfl
      exact opw_slh rfl Tryd.underlying22 ⟨1, by kernel_rfl⟩ e19 e22 (by omega) (hK _ _ rfl ⟨hRr _, fun _ _ h => h⟩)
    · rw [want_none rfl] at hwant; cases hwant
  case r11 =>
    refine truleGh fun b__ w hW hN hold hpre => ⟨fun hwant K hK => ?_, fun hwant => ?_⟩
    · clear hwant
      have e23 : b__.eval (.tmp 23) = .slice B (min m.length 20) d := hpre ⟨10, _⟩ (Array.mem_of_getElem? (i := 0) rfl) rfl _ _ rfl rfl
      exact opw_callw rfl (by kernel_rfl) (by simp only [List.map_cons, List.map_nil, e23]) (iclone_any ((k2 _ _ (hJ0.ext hW).ro).cut 20) (ints_one _) (by simp; omega)) fun e w' ⟨v, he, hs⟩ => ⟨v, he, hK v (w', ()) ((Sl.of_own (hs.own 0 rfl)).imp fun z hz _ => Nat.le_trans (hJ0.ext hW).size hz) ⟨hs.below, fun _ _ h => h⟩⟩
    · rw [want_none rfl] at hwant; cases hwant
  case r12 =>
    refine truleGh fun b__ w hW hN hold hpre => ⟨fun hwant K hK => ?_, fun hwant => ?_⟩
    · clear hwant
      have e18 : (fun (v : Value) (w : World × _) => Sl w.1 (W.heap.size ≤ ·) 1 v (l.take 20).length (ints (l.take 20))) (b__.eval (.tmp 18)) w := hpre ⟨5, _⟩ (Array.mem_of_getElem? (i := 0) rfl) rfl _ _ rfl rfl
      exact opw_assign rfl rfl (hK _ _ e18 ⟨hRr _, fun _ _ h => h⟩)
    · rw [want_none rfl] at hwant; cases hwant
  case r13 =>
    refine truleGh fun b__ w hW hN hold hpre => ⟨fun hwant K hK => ?_, fun hwant => ?_⟩
    · clear hwant
      have e24 : (fun (v : Value) (w : World × _) => Sl w.1 (W.heap.size ≤ ·) 1 v (m.take 20).length (ints (m.take 20))) (b__.eval (.tmp 24)) w := hpre ⟨11, _⟩ (Array.mem_of_getElem? (i := 0) rfl) rfl _ _ rfl rfl
      exact opw_assign rfl rfl (hK _ _ e24 ⟨hRr _, fun _ _ h => h⟩)
    · rw [want_none rfl] at hwant; cases hwant
  case post =>
    intro b__ wz hW hdf hsz hold hT hZ
    have e13 : b__.eval (.tmp 13) = .slice A l.length c := hT 0 _ 13 rfl rfl
    have e14 : b__.eval (.tmp 14) = .slice A l.length c := hT 1 _ 14 rfl rfl
    have e15 : b__.eval (.tmp 15) = .int .i64 (l.length : Nat) := hT 2 _ 15 rfl rfl
    have e16 : b__.eval (.tmp 16) = .int .i64 (min l.length 20 : Nat) := hT 3 _ 16 rfl rfl
    have e17 : b__.eval (.tmp 17) = .slice A (min l.length 20) c := hT 4 _ 17 rfl rfl
    have e18 : (fun (v : Value) (w : World × _) => Sl w.1 (W.heap.size ≤ ·) 1 v (l.take 20).length (ints (l.take 20))) (b__.eval (.tmp 18)) wz := hT 5 _ 18 rfl rfl
    have e19 : b__.eval (.tmp 19) = .slice B m.length d := hT 6 _ 19 rfl rfl
    have e20 : b__.eval (.tmp 20) = .slice B m.length d := hT 7 _ 20 rfl rfl
    have e21 : b__.eval (.tmp 21) = .int .i64 (m.length : Nat) := hT 8 _ 21 rfl rfl
    have e22 : b__.eval (.tmp 22) = .int .i64 (min m.length 20 : Nat) := hT 9 _ 22 rfl rfl
    have e23 : b__.eval (.tmp 23) = .slice B (min m.length 20) d := hT 10 _ 23 rfl rfl
    have e24 : (fun (v : Value) (w : World × _) => Sl w.1 (W.heap.size ≤ ·) 1 v (m.take 20).length (ints (m.take 20))) (b__.eval (.tmp 24)) wz := hT 11 _ 24 rfl rfl
    have e0 : (fun (v : Value) (w : World × _) => Sl w.1 (W.heap.size ≤ ·) 1 v (l.take 20).length (ints (l.take 20))) (b__.eval (.tmp 0)) wz := hT 12 _ 0 rfl rfl
    have e1 : (fun (v : Value) (w : World × _) => Sl w.1 (W.heap.size ≤ ·) 1 v (m.take 20).length (ints (m.take 20))) (b__.eval (.tmp 1)) wz := hT 13 _ 1 rfl rfl
    obtain ⟨vs, hvs, hb⟩ := frame_of hdf hsz hold
    replace e13 : vs 13 = .slice A l.length c := (hvs 13).symm.trans e13
    replace e14 : vs 14 = .slice A l.length c := (hvs 14).symm.trans e14
    replace e15 : vs 15 = .int .i64 (l.length : Nat) := (hvs 15).symm.trans e15
    replace e16 : vs 16 = .int .i64 (min l.length 20 : Nat) := (hvs 16).symm.trans e16
    replace e17 : vs 17 = .slice A (min l.length 20) c := (hvs 17).symm.trans e17
    replace e18 := (hvs 18) ▸ e18
    replace e19 : vs 19 = .slice B m.length d := (hvs 19).symm.trans e19
    replace e20 : vs 20 = .slice B m.length d := (hvs 20).symm.trans e20
    replace e21 : vs 21 = .int .i64 (m.length : Nat) := (hvs 21).symm.trans e21
    replace e22 : vs 22 = .int .i64 (min m.length 20 : Nat) := (hvs 22).symm.trans e22
    replace e23 : vs 23 = .slice B (min m.length 20) d := (hvs 23).symm.trans e23
    replace e24 := (hvs 24) ▸ e24
    replace e0 := (hvs 0) ▸ e0
    replace e1 := (hvs 1) ▸ e1
    subst hb
    clear hvs hold hT hdf hsz
    simp only [setAll, Act.put, List.setIfInBounds_toArray, List.set_cons_zero, List.set_cons_succ, List.getElem_toArray, List.getElem_cons_succ, List.getElem_cons_zero]
    have hx := (hJ0.ext hW).add (D := (W.heap.size ≤ ·)) ((stable_sl (by decide) (size := 1) (v := vs 0) (xs := ints (l.take 20))).and (stable_sl (by decide) (size := 1) (v := vs 1) (xs := ints (m.take 20)))) ⟨e0, e1⟩ (fun z _ _ _ h => by cases h)
    obtain ⟨A0, c0, f0, _, _⟩ := hx.ro.2.1.shape
    obtain ⟨B0, d0, f1, _, _⟩ := hx.ro.2.2.shape
    rw [f0, f1] at hx ⊢
    have hL : (l.take 20).length ≤ 20 := by simp; omega
    have hM : (m.take 20).length ≤ 20 := by simp; omega
    generalize l.take 20 = L at *
    generalize m.take 20 = M at *
    generalize wz.1 = wf at *
    obtain ⟨K2, j1, j2, hS⟩ : ∃ K2 : (Nat → Prop) → World → Prop, (∀ D w, K2 D w → Sl w D 1 (.slice A0 L.length c0) L.length (ints L)) ∧ (∀ D w, K2 D w → Sl w D 1 (.slice B0 M.length d0) M.length (ints M)) ∧ St W wf [] K2 := ⟨_, fun _ _ h => h.2.1, fun _ _ h => h.2.2, hx⟩
    clear hx hW hZ hJ0 hRr hRt hN0 e0 e1 e13 e14 e15 e16 e17 e18 e19 e20 e21 e22 e23 e24 f0 f1 kt k1 k2 hAc hBd
    generalize vs 13 = s13, vs 14 = s14, vs 15 = s15, vs 16 = s16, vs 17 = s17, vs 18 = s18, vs 19 = s19, vs 20 = s20, vs 21 = s21, vs 22 = s22, vs 23 = s23, vs 24 = s24
    go_wp2_with fail
    replace hS := hS.nil 3 1
    go_loopw [5, 6, 8, 27] (fun ow bv kv i wr => ∃ (j : Nat) (ov : Value), i = .int .i64 (j : Nat) ∧ ov = ow ∧ bv = .bool (!(L.take j).all (goodI M)) ∧ j ≤ L.length ∧ St W wr [.own ov 3 1 (wantI M (L.take j)).length (ints (wantI M (L.take j)))] K2) (fun _ _ _ i _ => L.length - (intOf i).toNat)
    case atStart => exact ⟨0, _, rfl, rfl, by simp, by omega, hS⟩
    case round =>
      clear hS
      obtain ⟨j, ov, rfl, rfl, rfl, hj, hS⟩ := hrel
      by_cases hlj : j < L.length
      · have f1 := intsG hlj
        have HW := wantI_take (m := M) hlj
        have HX := Lib.hid HW.1
        have HY := Lib.hid HW.2
        clear HW
        have HL : Hid ((wantI M (L.take j)).length ≤ 20) := Lib.hid (by
          unfold wantI; rw [List.length_map]
          exact Nat.le_trans (List.length_filter_le _ _) (by simp; omega))
        generalize L.getD j 0 = x at *
        by_cases h0 : x < 0
        · have hg : goodI M x = false := by unfold goodI; simp; omega
          rw [hg] at HX HY
          go_wp2_with (first | ((with_reducible show wpList _ _ _ (⟨_, .binOp _ _ _ _ _, _, _, _, _⟩ :: _) _ _); (first | (refine st_lss rfl _ _ _ _ rfl _ _ _ rfl rfl (fun h_ => ?_) (fun h_ => ?_)) | (refine st_leq rfl _ _ _ _ rfl _ _ _ rfl rfl (fun h_ => ?_) (fun h_ => ?_)) | (refine st_gtr rfl _ _ _ _ rfl _ _ _ rfl rfl (fun h_ => ?_) (fun h_ => ?_)) | (refine st_geq rfl _ _ _ _ rfl _ _ _ rfl rfl (fun h_ => ?_) (fun h_ => ?_)) | (refine st_eql rfl _ _ _ _ rfl _ _ _ rfl rfl (fun h_ => ?_) (fun h_ => ?_)) | (refine st_neq rfl _ _ _ _ rfl _ _ _ rfl rfl (fun h_ => ?_) (fun h_ => ?_))) <;> go_prune) | ((with_reducible show wpList _ _ _ (⟨_, .indexAddr _ _ _, _, _, _, _⟩ :: _) _ _); refine st_iaddr1 hS rfl _ _ _ rfl _ rfl rfl (by assumption) Tryd.underlying22 (by kernel_rfl) (by first | assumption | omega) _ (by assumption) ?_; intro p_ hc_) | ((with_reducible show wpList _ _ _ (⟨_, .load _ _, _, _, _, _⟩ :: _) _ _); first | (refine st_cell hS 0 rfl _ _ rfl _ _ rfl _ _ rfl (by decide +kernel) _ (by first | assumption | rfl) ?_) | (refine st_cell hS 1 rfl _ _ rfl _ _ rfl _ _ rfl (by decide +kernel) _ (by first | assumption | rfl) ?_) | (refine st_cell hS 2 rfl _ _ rfl _ _ rfl _ _ rfl (by decide +kernel) _ (by first | assumption | rfl) ?_) | (refine st_cell hS 3 rfl _ _ rfl _ _ rfl _ _ rfl (by decide +kernel) _ (by first | assumption | rfl) ?_) | (refine st_cell hS 4 rfl _ _ rfl _ _ rfl _ _ rfl (by decide +kernel) _ (by first | assumption | rfl) ?_) | (refine st_cell hS 5 rfl _ _ rfl _ _ rfl _ _ rfl (by decide +kernel) _ (by first | assumption | rfl) ?_) | (refine st_cell hS 6 rfl _ _ rfl _ _ rfl _ _ rfl (by decide +kernel) _ (by first | assumption | rfl) ?_) | (refine st_cell hS 7 rfl _ _ rfl _ _ rfl _ _ rfl (by decide +kernel) _ (by first | assumption | rfl) ?_)))
          refine ⟨⟨j + 1, ov, by go_num, rfl, ?_, hlj, ?_⟩, by simp [intOf]; omega⟩
          · rw [HY.out]; simp
          · rw [HX.out]; simpa using hS
        · by_cases h1 : x < M.length
          · have hg : goodI M x = true := by unfold goodI; simp; omega
            rw [hg] at HX HY
            obtain ⟨t, rfl⟩ : ∃ t : Nat, x = (t : Int) := ⟨x.toNat, by omega⟩
            have htm : t < M.length := by omega
            have f2 := intsG htm
            have HX2 : Hid (wantI M (L.take (j + 1)) = wantI M (L.take j) ++ [M.getD t 0]) := Lib.hid (by rw [HX.out]; simp [getI])
            clear HX
            have hle := HL.out
            generalize wantI M (L.take j) = ws at *
            generalize M.getD t 0 = y at *
            go_wp2_with (first
              | ((with_reducible show wpList _ _ _ (⟨_, .binOp _ _ _ _ _, _, _, _, _⟩ :: _) _ _); (first | (refine st_lss rfl _ _ _ _ rfl _ _ _ rfl rfl (fun h_ => ?_) (fun h_ => ?_)) | (refine st_leq rfl _ _ _ _ rfl _ _ _ rfl rfl (fun h_ => ?_) (fun h_ => ?_)) | (refine st_gtr rfl _ _ _ _ rfl _ _ _ rfl rfl (fun h_ => ?_) (fun h_ => ?_)) | (refine st_geq rfl _ _ _ _ rfl _ _ _ rfl rfl (fun h_ => ?_) (fun h_ => ?_)) | (refine st_eql rfl _ _ _ _ rfl _ _ _ rfl rfl (fun h_ => ?_) (fun h_ => ?_)) | (refine st_neq rfl _ _ _ _ rfl _ _ _ rfl rfl (fun h_ => ?_) (fun h_ => ?_))) <;> go_prune)
              | ((with_reducible show wpList _ _ _ (⟨_, .indexAddr _ _ _, _, _, _, _⟩ :: _) _ _); refine st_iaddr1 hS rfl _ _ _ rfl _ rfl rfl (by assumption) Tryd.underlying22 (by kernel_rfl) (by first | assumption | omega) _ (by assumption) ?_; intro p_ hc_)
              | ((with_reducible show wpList _ _ _ (⟨some 44, _, _, _, _, _⟩ :: _) _ _); refine st_push hS 0 rfl rfl _ _ _ _ rfl rfl ty_ints ov ws.length (ints ws) (.int .i64 y) #[.int .i64 y] rfl (by kernel_rfl) rfl rfl rfl rfl (by intro u hu; simp at hu; subst hu; rfl) (by omega) (by omega) ?_; clear hS; intro z_ v' w_ hS; (try simp only [Act.put, Act.eval, List.set_cons_zero, List.set_cons_succ, List.setIfInBounds_toArray, Array.getD_eq_getD_getElem?, List.getElem?_toArray, List.getElem?_cons_succ, List.getElem?_cons_zero, Option.getD_some, Value.cells] at hS))
              | ((with_reducible show wpList _ _ _ (⟨_, .buildSlice _ 1 _, _, _, _, _⟩ :: _) _ _); refine st_push hS 0 rfl rfl _ _ _ _ rfl rfl ty_ints _ _ _ (.int .i64 y) #[.int .i64 y] rfl (by kernel_rfl) rfl rfl rfl rfl (by intro u hu; simp at hu; first | (subst hu; rfl) | (rcases hu with rfl | rfl <;> rfl)) (by omega) (by omega) ?_; clear hS; intro z_ v_ w_ hS; (try simp only [Act.put, Act.eval, List.set_cons_zero, List.set_cons_succ, List.setIfInBounds_toArray, Array.getD_eq_getD_getElem?, List.getElem?_toArray, List.getElem?_cons_succ, List.getElem?_cons_zero, Option.getD_some, Value.cells] at hS))
              | ((with_reducible show wpList _ _ _ (⟨_, .load _ _, _, _, _, _⟩ :: _) _ _); refine BigFrame.wpList_want rfl fun _ hK => opw_cell rfl rfl (by kernel_rfl) (by assumption) (hK _ _ ?_)))
            refine ⟨⟨j + 1, _, by go_num, rfl, ?_, hlj, ?_⟩, by simp [intOf]; omega⟩
            · rw [HY.out]; simp
            · rw [HX2.out]
              have := hS
              simpa [ints] using this
          · have hg : goodI M x = false := by unfold goodI; simp; omega
            rw [hg] at HX HY
            have h2 : (M.length : Int) ≤ x := by omega
            go_wp2_with (first | ((with_reducible show wpList _ _ _ (⟨_, .binOp _ _ _ _ _, _, _, _, _⟩ :: _) _ _); (first | (refine st_lss rfl _ _ _ _ rfl _ _ _ rfl rfl (fun h_ => ?_) (fun h_ => ?_)) | (refine st_leq rfl _ _ _ _ rfl _ _ _ rfl rfl (fun h_ => ?_) (fun h_ => ?_)) | (refine st_gtr rfl _ _ _ _ rfl _ _ _ rfl rfl (fun h_ => ?_) (fun h_ => ?_)) | (refine st_geq rfl _ _ _ _ rfl _ _ _ rfl rfl (fun h_ => ?_) (fun h_ => ?_)) | (refine st_eql rfl _ _ _ _ rfl _ _ _ rfl rfl (fun h_ => ?_) (fun h_ => ?_)) | (refine st_neq rfl _ _ _ _ rfl _ _ _ rfl rfl (fun h_ => ?_) (fun h_ => ?_))) <;> go_prune) | ((with_reducible show wpList _ _ _ (⟨_, .indexAddr _ _ _, _, _, _, _⟩ :: _) _ _); refine st_iaddr1 hS rfl _ _ _ rfl _ rfl rfl (by assumption) Tryd.underlying22 (by kernel_rfl) (by first | assumption | omega) _ (by assumption) ?_; intro p_ hc_) | ((with_reducible show wpList _ _ _ (⟨_, .load _ _, _, _, _, _⟩ :: _) _ _); refine BigFrame.wpList_want rfl fun _ hK => opw_cell rfl rfl (by kernel_rfl) (by assumption) (hK _ _ ?_)))
            refine ⟨⟨j + 1, ov, by go_num, rfl, ?_, hlj, ?_⟩, by simp [intOf]; omega⟩
            · rw [HY.out]; simp
            · rw [HX.out]; simpa using hS
      · obtain rfl : L.length = j := by omega
        rw [List.take_length] at hS ⊢
        cases hg : L.all (goodI M) with
        | false =>
          have HG := Lib.hid hg
          clear hg
          go_wp2_with (first | ((with_reducible show wpList _ _ _ (⟨_, .binOp _ _ _ _ _, _, _, _, _⟩ :: _) _ _); (first | (refine st_lss rfl _ _ _ _ rfl _ _ _ rfl rfl (fun h_ => ?_) (fun h_ => ?_)) | (refine st_leq rfl _ _ _ _ rfl _ _ _ rfl rfl (fun h_ => ?_) (fun h_ => ?_)) | (refine st_gtr rfl _ _ _ _ rfl _ _ _ rfl rfl (fun h_ => ?_) (fun h_ => ?_)) | (refine st_geq rfl _ _ _ _ rfl _ _ _ rfl rfl (fun h_ => ?_) (fun h_ => ?_)) | (refine st_eql rfl _ _ _ _ rfl _ _ _ rfl rfl (fun h_ => ?_) (fun h_ => ?_)) | (refine st_neq rfl _ _ _ _ rfl _ _ _ rfl rfl (fun h_ => ?_) (fun h_ => ?_))) <;> go_prune) | (go_at_call 6; refine (back_any (j1 _ _ hS.ro) (j2 _ _ hS.ro) (by omega)).mono ?_; intro e w_ hB; obtain ⟨rfl, hb_⟩ := hB.bad HG.out; replace hS := hS.ext hb_; clear hb_ hB))
          go_ret
          exact Ret.mk rfl hS.below
        | true =>
          have HG := Lib.hid hg
          rw [wantI_all hg] at hS
          clear hg
          go_wp2_with (first
            | ((with_reducible show wpList _ _ _ (⟨_, .binOp _ _ _ _ _, _, _, _, _⟩ :: _) _ _); (first | (refine st_lss rfl _ _ _ _ rfl _ _ _ rfl rfl (fun h_ => ?_) (fun h_ => ?_)) | (refine st_leq rfl _ _ _ _ rfl _ _ _ rfl rfl (fun h_ => ?_) (fun h_ => ?_)) | (refine st_gtr rfl _ _ _ _ rfl _ _ _ rfl rfl (fun h_ => ?_) (fun h_ => ?_)) | (refine st_geq rfl _ _ _ _ rfl _ _ _ rfl rfl (fun h_ => ?_) (fun h_ => ?_)) | (refine st_eql rfl _ _ _ _ rfl _ _ _ rfl rfl (fun h_ => ?_) (fun h_ => ?_)) | (refine st_neq rfl _ _ _ _ rfl _ _ _ rfl rfl (fun h_ => ?_) (fun h_ => ?_))) <;> go_prune)
            | (go_at_call 6; refine (back_any (j1 _ _ hS.ro) (j2 _ _ hS.ro) (by omega)).mono ?_; intro e w_ hB; obtain ⟨x, rfl, hs_⟩ := hB.good HG.out; replace hS := hS.new hs_.below (.own x 3 1 (L.map (getI M)).length (ints (L.map (getI M)))) (hs_.own 0 rfl); clear hs_ hB; rw [List.length_map] at hS; obtain ⟨A9, c9, rfl, _, _⟩ := own_shp (hS.own 0 rfl))
            | (go_at_call 7; refine (sleq_any _ _ (L.map (getI M)) (L.map (getI M)) _ _ _ (by rw [List.length_map]; exact Sl.of_own (hS.own 0 rfl)) (by rw [List.length_map]; exact Sl.of_own (hS.own 1 rfl))).mono ?_; rintro r_ w_ ⟨_, rfl, rfl, hb_⟩; rw [beq_self_eq_true]; replace hS := hS.ext hb_; clear hb_))
          go_ret
          exact Ret.mk rfl hS.below
end Go.Proofs.YtihpgmbinhmmlaaDoor
namespace Go.Proofs.YtihpgmbinhmmlaaDoor
open Go.RowKit Go.ChangeShapes Go.WideShapes

section
variable {H : Type} {enc : TypeId × Value → H} {P : Program} {w : World} {base : Nat} {sp : Nat → Bool} {held : Bool}
theorem sl_of_trod {t e : TypeId} {size fuel : Nat} {cs : List Value} {x : DataW H × List MemPlace} (ht : P.underlying t = some (.slice e)) (hc : P.cellsOf e = size) (hsz : 0 < size) (h : DataW.trod enc P w base sp held fuel t cs = some x) :
    ∃ v n xs, cs = [v] ∧ Sl w (fun _ => True) size v n xs ∧ ∀ k, k < n → ∃ f' y, DataW.trod enc P w base sp held f' e ((xs.drop (k * size)).take size) = some y := by
  rcases DataW.trod_slice ht h with ⟨rfl, _⟩ | ⟨a, len, cap, elems, rest, n, _, rfl, _, hb, hl, hm, hlen, hel, _⟩
  · exact ⟨_, 0, [], rfl, ⟨by simp, none, 0, rfl, Nat.le_refl _, Nat.zero_le _, fun h => by omega⟩, fun k hk => by omega⟩
  · rw [hc] at hel
    have each : ∀ k, k < len → ∃ ck y, w.cells? base (a.add (k * size)) size = some ck ∧ DataW.trod enc P w base sp held n e ck = some y := by
      intro k hk
      have h1 := hel k hk
      rw [List.getElem?_eq_getElem (by omega)] at h1
      obtain ⟨ck, h2, h3⟩ := Option.bind_eq_some_iff.1 h1
      exact ⟨ck, _, h2, h3⟩
    have hadd : ∀ i j, (a.add i).add j = a.add (i + j) := by
      intro i j
      unfold Addr.add
      by_cases h1 : i = 0 <;> by_cases h2 : j = 0 <;> simp [h1, h2, Nat.add_assoc]
    have cell : ∀ j, j < len * size → ∃ x, w.cell? (a.add j) = some x := by
      intro j hj
      have hk : j / size < len := (Nat.div_lt_iff_lt_mul hsz).2 hj
      obtain ⟨ck, y, h1, h2⟩ := each _ hk
      obtain ⟨_, h3, h4⟩ := World.cells?_some h1
      have h5 := h4 (j % size) (Nat.mod_lt _ hsz)
      rw [hadd, Nat.mul_comm, Nat.div_add_mod] at h5
      rw [h5, List.getElem?_eq_getElem (by rw [h3]; exact Nat.mod_lt _ hsz)]
      exact ⟨_, rfl⟩
    refine ⟨.slice (some a) len cap, len, (List.range (len * size)).map fun j => (w.cell? (a.add j)).getD undef, rfl, ⟨by simp, some a, cap, rfl, hl, hm, fun h0 => ?_⟩, fun k hk => ?_⟩
    · obtain ⟨x0, hx0⟩ := cell 0 (Nat.mul_pos h0 hsz)
      obtain ⟨b, o, s⟩ := a
      have hs : s = none := cell_spot hx0
      subst hs
      refine ⟨b, o, rfl, trivial, ?_, fun j x hx => ?_⟩
      · have := hx0
        unfold World.cell? at this
        simp only [Addr.add] at this
        rcases Nat.lt_or_ge b w.heap.size with hlt | hge
        · exact hlt
        · simp [Array.getElem?_eq_none hge] at this
      · simp only [List.getElem?_map, Option.map_eq_some_iff] at hx
        obtain ⟨j', hj', rfl⟩ := hx
        have hjl := (List.getElem?_eq_some_iff.1 hj').1
        rw [List.getElem?_range (by simpa using hjl)] at hj'
        obtain rfl := Option.some.inj hj'
        obtain ⟨y, hy⟩ := cell j (by simpa using hjl)
        rw [hy]
        have e : (⟨b, o, none⟩ : Addr).add j = ⟨b, o + j, none⟩ := by
          unfold Addr.add; split <;> simp [*]
        rw [e] at hy
        exact hy
    · obtain ⟨ck, y, h1, h2⟩ := each k hk
      obtain ⟨_, h3, h4⟩ := World.cells?_some h1
      refine ⟨n, y, ?_⟩
      rw [← h2]
      congr 1
      have hle : k * size + size ≤ len * size := by
        rw [← Nat.succ_mul]; exact Nat.mul_le_mul_right _ hk
      apply List.ext_getElem?
      intro i
      rcases Nat.lt_or_ge i size with hi | hi
      · rw [List.getElem?_take_of_lt hi, List.getElem?_drop, List.getElem?_map, List.getElem?_range (by omega)]
        have h5 := h4 i hi
        rw [hadd] at h5
        simp only [Option.map_some]
        rw [h5, List.getElem?_eq_getElem (by omega)]
        simp
      · rw [List.getElem?_eq_none (by simp; omega), List.getElem?_eq_none (by omega)]
end
theorem sl_ints {H : Type} {enc : TypeId × Value → H} {w : World} {base : Nat} {sp : Nat → Bool} {held : Bool} {fuel : Nat} {cs : List Value} {x : DataW H × List MemPlace} (h : DataW.trod enc Tryd.prog w base sp held fuel 22 cs = some x) :
    ∃ v zs, cs = [v] ∧ Sl w (fun _ => True) 1 v zs.length (ints zs) := by
  obtain ⟨v, n, xs, rfl, hs, he⟩ := sl_of_trod Tryd.underlying22 (size := 1) (by kernel_rfl) (by decide) h
  have hl := hs.1
  have : ∃ zs : List Int, xs = ints zs := by
    have : ∀ v ∈ xs, ∃ z : Int, v = .int .i64 z := by
      intro v hv
      obtain ⟨k, hk, hkv⟩ := List.mem_iff_getElem.1 hv
      obtain ⟨f', y, hy⟩ := he k (by omega)
      obtain ⟨z, hz, _⟩ := DataW.trod_int Tryd.underlying3 hy
      have h0 := congrArg (·[0]?) hz
      simp only [Nat.mul_one, List.getElem?_take_of_lt Nat.zero_lt_one, List.getElem?_drop, Nat.add_zero] at h0
      rw [List.getElem?_eq_getElem hk, hkv] at h0
      exact ⟨z, by simpa using h0⟩
    clear hs he hl h
    induction xs with
    | nil => exact ⟨[], rfl⟩
    | cons a r ih =>
      obtain ⟨zs, rfl⟩ := ih fun v hv => this v (List.mem_cons_of_mem _ hv)
      obtain ⟨z, rfl⟩ := this a List.mem_cons_self
      exact ⟨z :: zs, rfl⟩
  obtain ⟨zs, rfl⟩ := this
  have hz : zs.length = n := by simpa [ints] using hl
  exact ⟨v, zs, rfl, hz ▸ hs⟩
end Go.Proofs.YtihpgmbinhmmlaaDoor
namespace Go.Proofs.YtihpgmbinhmmlaaDoor
open Go.ChangeShapes Go.WideShapes Go.ChangeAt Go.RowKit

set_option maxRecDepth 20000 in
theorem ints_open {H : Type} {enc : TypeId × Value → H} {W : World} {r : Reach} {b0 base : Nat} {sp : Nat → Bool} {held : Bool} {v : Value} {d : DataW H} {p : List MemPlace} (hv : Value.okWide Tryd.prog W r b0 22 v) (h : DataW.Trod enc Tryd.prog W base sp held 22 v d p) :
    ∃ l : List Int, Sl W (fun _ => True) 1 v l.length (ints l) := by
  obtain ⟨a0, len0, cap0, rfl⟩ := okWide_slice Tryd.underlying22 hv
  obtain ⟨fuel, hf⟩ := h
  obtain ⟨v, l, e, hs⟩ := sl_ints hf
  obtain rfl : v = .slice a0 len0 cap0 := by simpa [Value.cells] using e.symm
  exact ⟨l, hs⟩
end Go.Proofs.YtihpgmbinhmmlaaDoor
namespace Go.Proofs.YtihpgmbinhmmlaaDoor
open Go.RowKit Go.ChangeShapes Go.WideShapes

theorem boxF_of_reads {w : World} {n : String} {g : Nat} {t e : TypeId} {m : Nat} {k : IntKind} {zs : List Int} (hg : Tryd.prog.globalNamed n = some g) (hty : (Tryd.prog.globals[g]?).map (·.type) = some t)
    (ht : Tryd.prog.underlying t = some (.array m e)) (he : Tryd.prog.underlying e = some (.int k)) (hce : Tryd.prog.cellsOf e = 1) (hct : Tryd.prog.cellsOf t = m) (h : Lib.VarReads Tryd.prog w n (Lib.tabData k zs)) :
    ∃ t, BoxF w g t (zs.map fun z => Value.int k z).toArray := by
  obtain ⟨g', t', cs, fuel, p, hg', hty', hvar, hd⟩ := h
  obtain rfl := Option.some.inj (hg.symm.trans hg')
  obtain rfl := Option.some.inj (hty.symm.trans hty')
  have hcs := Lib.cells_of_tab ht he hce hct hd
  simp only [World.var?, hg, Option.bind_some] at hvar
  split at hvar
  · rename_i cs' t'' f heq
    obtain rfl := Option.some.inj hvar
    refine ⟨(t'', f), ?_⟩
    rw [← hcs]
    exact heq
  · cases hvar
end Go.Proofs.YtihpgmbinhmmlaaDoor
namespace Go.Proofs.YtihpgmbinhmmlaaDoor
open Go.RowKit Go.ChangeShapes Go.WideShapes

theorem dtab_of_reads {w : World} (h1 : Lib.VarReads Tryd.prog w "math/bits.deBruijn64tab" Rows.laid_math_bits_deBruijn64tab) : DTab w := by
  have e1 : (Rows.laid_math_bits_deBruijn64tab : DataW Unit) = Lib.tabData .u8 (dbL.map fun x : Nat => (x : Int)) := by kernel_rfl
  rw [e1] at h1
  obtain ⟨t, b1⟩ := boxF_of_reads (g := 0) (by kernel_rfl) (t := 105) (by kernel_rfl) Tryd.underlying105 Tryd.underlying5 (by kernel_rfl) (by kernel_rfl) h1
  have e : (List.map (fun z => Value.int .u8 z) (dbL.map fun x : Nat => (x : Int))) = u8s dbL := by simp [u8s]
  rw [e] at b1
  intro q hq
  rw [b1.cell, List.getElem?_toArray]
  exact u8s_at _ _ hq
end Go.Proofs.YtihpgmbinhmmlaaDoor
namespace Go.Proofs.YtihpgmbinhmmlaaDoor
open Go.ChangeShapes Go.WideShapes Go.ChangeAt Go.RowKit

theorem sback_laid_plain (W : World) (h : laidMetH Tryd.prog Rows.sliceBackRow.laid W) : DTab W := by
  have h' : laidMetH Tryd.prog [("math/bits.deBruijn64tab", Rows.laid_math_bits_deBruijn64tab)] W := h
  rw [MakeChecks.laidMetH_plain _ _ _ (by kernel_rfl)] at h'
  exact dtab_of_reads (Lib.laidMet.reads h' (.head _))
noncomputable def sbackStart (os : Os) : World := World.laidAll Tryd.prog os Rows.sliceBackRow.laid
theorem sback_start_met (os : Os) (args : Array Value) : laidMetH Tryd.prog Rows.sliceBackRow.laid ((sbackStart os).forCall (fun _ _ => 0) ⟨#[], args, []⟩).memory := by
  rw [MakeChecks.laidMetH_plain _ _ _ (by kernel_rfl)]
  exact laidMet_laidAll _ (by kernel_rfl) (by kernel_rfl)
theorem sback_own : ownKnob Tryd.prog.godebug = none := by kernel_rfl
theorem sback_laidOut : laidOutB Tryd.prog = true := by kernel_rfl

set_option maxRecDepth 100000 in
theorem sback_lifted (os : Os) (started : os.Started) (H : Type) (enc : TypeId × Value → H) :
    ReturnsInHanded {} Tryd.checked os 3 .any (fun w args => (Rows.sliceBackSpec.pre enc Tryd.prog Tryd.f3 [] false w args ∧ laidMetH Tryd.prog Rows.sliceBackRow.laid w) ∧ sizedMet enc Tryd.prog Tryd.f3 (OpenSpec.ofChange Rows.sliceBackSpec) false w args)
      (Rows.sliceBackSpec.post enc Tryd.prog Tryd.f3 false true false false) := by
  refine returnsInHanded_of_change_and (C := Tryd.checked) (X := fun w _ => laidMetH Tryd.prog Rows.sliceBackRow.laid w) (fun _ _ _ hh h => h.of_heap hh) sback_own started (by kernel_rfl) Tryd.func3
    (ChangeSpec.witness_shaped (enc := enc) (C := Tryd.checked) (os := os) (X := fun w _ => laidMetH Tryd.prog Rows.sliceBackRow.laid w) false (sbackStart os) #[.slice none 0 0, .slice none 0 0] 8 (World.laidAll_os _ _ _) (World.shaped_of_ZipB (by kernel_rfl) (by kernel_rfl)) (by kernel_rfl) (by kernel_rfl) (by kernel_rfl) (sback_start_met os _)) ?_
  intro W base args ds gs before hval0 hW _ _ hL _
  have hval : ∀ (j : Nat) t v, Tryd.f3.params[j]? = some t → args[j]? = some v → Value.okWide Tryd.prog W .any base t v := hval0
  have hW' := hW
  obtain ⟨p, q, hA0, hV, rfl, hfz, hnd⟩ := hW
  have hA : DataW.TrodAll enc Tryd.prog W 0 (fun _ => true) true Tryd.f3.params.toList args.toList ds p := hA0
  rw [Tryd.params3] at hA hval
  obtain ⟨v0, v1, d0, d1, p0, p1, rfl, rfl, rfl, h0, h1⟩ := trodAll_two hA
  obtain ⟨rfl, rfl⟩ := trodVars_none hV
  obtain ⟨l, hl0⟩ := ints_open (hval 0 _ v0 rfl rfl) h0
  obtain ⟨m, hm0⟩ := ints_open (hval 1 _ v1 rfl rfl) h1
  have hT := sback_laid_plain W hL
  have lt : ∀ z ∈ p0 ++ p1, z.block < W.heap.size := fun z hz => by simpa using hW'.lt z (by simpa using hz)
  refine (lback_any v0 v1 l m W _ _ hl0 hm0 hT).mono fun E W' he => ?_
  obtain ⟨r, rfl, rfl, hb⟩ := he
  refine ⟨_, rfl, _, _, _, [], p0 ++ p1, [], hW', ?_, ?_, ?_, hb.frame _, fun h => by cases h⟩
  · exact trodAll_mk1 (shut_bool Tryd.underlying4 true)
  · rw [Tryd.params3]
    exact trodAll_mk2 (Below.trod sback_laidOut (by kernel_rfl) (of_decide_eq_true (by kernel_rfl)) h0 hb fun z hz => lt z (List.mem_append_left _ hz)) (Below.trod sback_laidOut (by kernel_rfl) (of_decide_eq_true (by kernel_rfl)) h1 hb fun z hz => lt z (List.mem_append_right _ hz))
  · rfl

theorem sback_holds : Rows.SliceBackSaid :=
  OpenClaim.holds_of_wide 3 Tryd.f3 rfl rfl rfl rfl rfl rfl rfl ⟨rfl, rfl, rfl, rfl, rfl⟩ rfl rfl rfl rfl rfl (by kernel_rfl) Tryd.func3 (by kernel_rfl)
    (of_decide_eq_true (by kernel_rfl)) (by unfold Func.isWrapper; rw [if_neg (by decide +kernel)]; exact ⟨rfl, rfl⟩)
    (fun os started H enc _ => sback_lifted os started H enc)
end Go.Proofs.YtihpgmbinhmmlaaDoor
namespace Go.Proofs.YtihpgmbinhmmlaaDoor
open Go

theorem sback_card : Rows.SliceBackCardSaid :=
  Claim7.holds_tied_plain_at .later [] [.data] true (true, "a28f260433cf48d5b02cf20bbfb4c15c4404908dfe89d4949903d5c473a80610") false
    sback_holds (fun _ h => by cases h) (by kernel_rfl) (fun _ h => by cases h) sliceBack_row_tie rfl ⟨rfl, rfl⟩ (by kernel_rfl) rfl
    (fun f fn hf hfn => by
      obtain rfl : f = 3 := Option.some.inj ((show Tryd.prog.funcNamed "arbac/arbaclaw33.SliceBack" = some 3 by kernel_rfl).symm.trans hf) |>.symm
      obtain rfl : fn = Tryd.f3 := (Option.some.inj (Tryd.func3.symm.trans hfn)).symm
      exact ⟨by kernel_rfl, fun j t ht => by
        rw [Tryd.params3] at ht
        have h3 : t = 22 := by
          rcases j with _ | _ | j
          · simp at ht; simp [← ht]
          · simp at ht; simp [← ht]
          · simp at ht
        rcases h3 with rfl
        · exact (show Tryd.prog.wantsStandIn 22 = false by kernel_rfl)⟩)
    (by kernel_rfl)
end Go.Proofs.YtihpgmbinhmmlaaDoor
namespace Go.Proofs.YtihpgmbinhmmlaaDoor
#print axioms sback_card
end Go.Proofs.YtihpgmbinhmmlaaDoor
