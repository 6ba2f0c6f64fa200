/-
  What the statement needs, part 5.
-/
import Derived.Deep.LoopGhost
import Derived.Test.YtihpgmbinhmmlaaDoorSb4
namespace Go.Proofs.YtihpgmbinhmmlaaDoor
open Go.RowKit
attribute [local go_sem ↓] Go.wp_at_zero Go.wp_at_succ
set_option maxRecDepth 20000
set_option exponentiation.threshold 5000

noncomputable def relS (p : ProbD) : Nat := if checkE p = 0 then (match p.links with | none => 0 | some L => relM L p) else 0
set_option maxHeartbeats 4000000 in
theorem relevant_any {w0 : World} {D : Nat → Prop} {v : Value} {p : ProbD} (hp : IsProb w0 D v p) (hP : p.Ok) (hT : DTab w0) : Calls Tryd.prog 12 #[v] w0 (Ret (fun x w' => IsSet w' (w0.heap.size ≤ ·) x (relS p)) w0) := by
  obtain ⟨R, lk, st, rl, nl, gl⟩ := p
  have HP := Lib.hid hP
  have hP1 := hP.rules
  have hP2 := hP.never
  have hP3 := hP.goal
  dsimp only at hP1 hP2 hP3
  clear hP
  obtain ⟨lp, s, rv, nv, gv, rfl, h1, h2, h3, h4, h5⟩ := hp
  dsimp only at h1 h2 h3 h4 h5 ⊢
  obtain ⟨Cs, ns, cs, rfl⟩ := h2.shape
  obtain ⟨Ar, cr, rfl, _, _⟩ := h3.shape
  obtain ⟨An, cn, rfl, _, _⟩ := h4.shape
  obtain ⟨Ag, cg, rfl, _, _⟩ := h5.shape
  obtain ⟨K, kp, kh, kr, kn, kg, kt, hS⟩ : ∃ K : (Nat → Prop) → World → Prop, (∀ D w, K D w → IsProb w D (.agg #[.int .i64 R, lp, .slice Cs ns cs, .slice Ar rl.length cr, .slice An nl.length cn, .slice Ag gl.length cg]) ⟨R, lk, st, rl, nl, gl⟩) ∧ (∀ D w, K D w → IsHo w D lp lk) ∧ (∀ D w, K D w → IsRules w D (.slice Ar rl.length cr) rl) ∧ (∀ D w, K D w → IsCubes w D (.slice An nl.length cn) nl) ∧ (∀ D w, K D w → IsCubes w D (.slice Ag gl.length cg) gl) ∧ (∀ D w, K D w → DTab w) ∧ St w0 w0 [] K :=
    ⟨fun D w => ((IsHo w D lp lk ∧ IsSet w D (.agg #[.slice Cs ns cs]) st) ∧ IsRules w D (.slice Ar rl.length cr) rl ∧ IsCubes w D (.slice An nl.length cn) nl ∧ IsCubes w D (.slice Ag gl.length cg) gl) ∧ (DTab w ∧ D 0), fun _ _ h => ⟨_, _, _, _, _, rfl, h.1.1.1, h.1.1.2, h.1.2.1, h.1.2.2.1, h.1.2.2.2⟩, fun _ _ h => h.1.1.1, fun _ _ h => h.1.2.1, fun _ _ h => h.1.2.2.1, fun _ _ h => h.1.2.2.2, fun _ _ h => h.2.1,
      St.start (D := fun _ => True) (((stable_ho.and stable_set).and (stable_rules.and (stable_cubes.and stable_cubes))).and dtab_stable) ⟨⟨⟨stable_ho D _ w0 w0 h1 (Nat.le_refl _) (fun _ _ _ _ h => h) fun _ _ _ _ => trivial, h2.imp fun _ _ _ => trivial⟩, stable_rules D _ w0 w0 h3 (Nat.le_refl _) (fun _ _ _ _ h => h) fun _ _ _ _ => trivial, h4.imp fun _ _ _ => trivial, h5.imp fun _ _ _ => trivial⟩, hT, trivial⟩⟩
  clear h1 h2 h3 h4 h5 hT
  have KS := Lib.hid hS.stable
  obtain ⟨e, he⟩ : ∃ e, e = checkE ⟨R, lk, st, rl, nl, gl⟩ := ⟨_, rfl⟩
  have HE := Lib.hid he
  clear he
  by_cases h0 : e = 0
  · subst h0
    cases lk with
    | none => have := HE.out; cases this
    | some L =>
      have HH := Lib.hid (HP.out.links L rfl).1
      have HRS : Hid (relS ⟨R, some L, st, rl, nl, gl⟩ = relM L ⟨R, some L, st, rl, nl, gl⟩) := Lib.hid (by unfold relS; rw [if_pos HE.out.symm])
      rw [HRS.out]
      obtain ⟨q, o, rfl, -⟩ := id (kh _ _ hS.ro)
      go_enter Tryd.func12, Tryd.ntmps12
      go_wp2_with (first
        | ((with_reducible show wpList _ _ _ (⟨some 1, _, _, _, _, _⟩ :: _) _ _); refine st_box hS rfl _ _ rfl (.agg #[.int .i64 R, .pointer (some ⟨q, 0, none⟩), .slice Cs ns cs, .slice Ar rl.length cr, .slice An nl.length cn, .slice Ag gl.length cg]) _ rfl rfl ?_; clear hS; intro g1 w_ hS; (try simp only [Act.put, Act.eval, List.set_cons_zero, List.set_cons_succ, List.setIfInBounds_toArray, Array.getD_eq_getD_getElem?, List.getElem?_toArray, List.getElem?_cons_succ, List.getElem?_cons_zero, Option.getD_some, Value.cells] at hS))
        | ((with_reducible show wpList _ _ _ (⟨some 2, _, _, _, _, _⟩ :: _) _ _); refine st_allocz hS rfl _ rfl (by kernel_rfl) #[.slice none 0 0] (by kernel_rfl) ?_; clear hS; intro g2 w_ hS; (try simp only [Act.put, Act.eval, List.set_cons_zero, List.set_cons_succ, List.setIfInBounds_toArray, Array.getD_eq_getD_getElem?, List.getElem?_toArray, List.getElem?_cons_succ, List.getElem?_cons_zero, Option.getD_some, Value.cells] at hS))
        | ((with_reducible show wpList _ _ _ (⟨some 3, _, _, _, _, _⟩ :: _) _ _); refine st_allocz hS rfl _ rfl (by kernel_rfl) #[.slice none 0 0] (by kernel_rfl) ?_; clear hS; intro g3 w_ hS; (try simp only [Act.put, Act.eval, List.set_cons_zero, List.set_cons_succ, List.setIfInBounds_toArray, Array.getD_eq_getD_getElem?, List.getElem?_toArray, List.getElem?_cons_succ, List.getElem?_cons_zero, Option.getD_some, Value.cells] at hS))
        | ((with_reducible show wpList _ _ _ (⟨_, .load _ _, _, _, _, _⟩ :: _) _ _); first | refine st_load hS 0 rfl _ _ rfl _ rfl _ _ rfl _ Tryd.underlying43 rfl (by kernel_rfl) ?_ | refine st_load hS 1 rfl _ _ rfl _ rfl _ _ rfl _ Tryd.underlying43 rfl (by kernel_rfl) ?_ | refine st_load hS 2 rfl _ _ rfl _ rfl _ _ rfl _ Tryd.underlying43 rfl (by kernel_rfl) ?_ | refine st_load hS 3 rfl _ _ rfl _ rfl _ _ rfl _ Tryd.underlying43 rfl (by kernel_rfl) ?_)
        | (go_at_call 17; refine (schk_any (kp _ _ hS.ro) HP.out (kt _ _ hS.ro)).mono ?_; rw [← HE.out]; rintro r_ w_ ⟨_, rfl, rfl, hb_⟩; replace hS := hS.ext hb_; clear hb_)
        | ((with_reducible show wpList _ _ _ (⟨_, .load _ _, _, _, _, _⟩ :: _) _ _); first | (refine st_cell hS 0 rfl _ _ rfl _ _ rfl _ _ rfl (by decide +kernel) _ (by first | assumption | rfl) ?_) | (refine st_cell hS 1 rfl _ _ rfl _ _ rfl _ _ rfl (by decide +kernel) _ (by first | assumption | rfl) ?_) | (refine st_cell hS 2 rfl _ _ rfl _ _ rfl _ _ rfl (by decide +kernel) _ (by first | assumption | rfl) ?_) | (refine st_cell hS 3 rfl _ _ rfl _ _ rfl _ _ rfl (by decide +kernel) _ (by first | assumption | rfl) ?_) | (refine st_cell hS 4 rfl _ _ rfl _ _ rfl _ _ rfl (by decide +kernel) _ (by first | assumption | rfl) ?_) | (refine st_cell hS 5 rfl _ _ rfl _ _ rfl _ _ rfl (by decide +kernel) _ (by first | assumption | rfl) ?_) | (refine st_cell hS 6 rfl _ _ rfl _ _ rfl _ _ rfl (by decide +kernel) _ (by first | assumption | rfl) ?_) | (refine st_cell hS 7 rfl _ _ rfl _ _ rfl _ _ rfl (by decide +kernel) _ (by first | assumption | rfl) ?_)))
      go_loopw [19] (fun i wr => ∃ (j : Nat) (u : Value) (N : Nat), i = .int .i64 (j : Nat) ∧ j ≤ gl.length ∧ Hid (Low L ⟨R, some L, st, rl, nl, gl⟩ N ∧ ∀ c ∈ gl.take j, Sub (depC L c) N) ∧ St w0 wr [.box g3 31 #[u], .box g2 31 #[.slice none 0 0], .box g1 43 #[.int .i64 R, .pointer (some ⟨q, 0, none⟩), .slice Cs ns cs, .slice Ar rl.length cr, .slice An nl.length cn, .slice Ag gl.length cg]] (fun D w => K D w ∧ IsSet w (fun z => D z ∧ w0.heap.size ≤ z) (.agg #[u]) N)) (fun i _ => gl.length - (intOf i).toNat)
      case atStart => exact ⟨0, _, 0, rfl, by omega, Lib.hid ⟨Low.zero _ _, by simp⟩, hS.mono (KS.out.and (stable_inter stable_set fun z => w0.heap.size ≤ z)) fun D w h => ⟨h, IsSet.empty⟩⟩
      case round =>
        clear hS
        obtain ⟨j, u, N0, rfl, hj, HI, hS⟩ := hrel
        by_cases hlj : j < gl.length
        · obtain ⟨b, o2, y, n, rfl, _, hb, c0, c1, hy, hn⟩ := (kg _ _ hS.ro.1).at_ hlj
          obtain ⟨Ay, my, cy, rfl⟩ := hy.shape
          obtain ⟨Am, mn, cm, rfl⟩ := hn.shape
          have HI2 : Hid (Low L ⟨R, some L, st, rl, nl, gl⟩ (N0 ||| depC L (gl.getD j (0, 0))) ∧ ∀ c ∈ gl.take (j + 1), Sub (depC L c) (N0 ||| depC L (gl.getD j (0, 0)))) := Lib.hid ⟨HI.out.1.goal (List.mem_of_getElem? (getD_at (0, 0) hlj)), fun c hc => (take_mem (getD_at (0, 0) hlj) hc).elim (fun h => (HI.out.2 c h).trans (Sub.left _ _)) fun e => by rw [e]; exact Sub.right _ _⟩
          obtain ⟨KC, kc, hS2⟩ : ∃ KC : (Nat → Prop) → World → Prop, Hid (∀ D w, KC D w → K D w ∧ IsSet w (fun z => D z ∧ w0.heap.size ≤ z) (.agg #[u]) N0 ∧ IsCube w D (.agg #[.slice Ay my cy, .slice Am mn cm]) (gl.getD j (0, 0))) ∧ St w0 wr [.box g3 31 #[u], .box g2 31 #[.slice none 0 0], .box g1 43 #[.int .i64 R, .pointer (some ⟨q, 0, none⟩), .slice Cs ns cs, .slice Ar rl.length cr, .slice An nl.length cn, .slice (some ⟨b, o2, none⟩) gl.length cg]] KC := ⟨_, Lib.hid fun D w h => ⟨h.1.1, h.1.2, h.2⟩, hS.add (D := Free _) stable_cube ⟨_, _, rfl, hy, hn⟩ fun _ h _ => h⟩
          clear hS hy hn
          have hS := hS2
          clear hS2
          generalize gl.getD j (0, 0) = z at *
          go_wp2_with (first
            | ((with_reducible show wpList _ _ _ (⟨_, .binOp _ _ _ _ _, _, _, _, _⟩ :: _) _ _); (first | (refine st_lss rfl _ _ _ _ rfl _ _ _ rfl rfl (fun h_ => ?_) (fun h_ => ?_)) | (refine st_leq rfl _ _ _ _ rfl _ _ _ rfl rfl (fun h_ => ?_) (fun h_ => ?_)) | (refine st_gtr rfl _ _ _ _ rfl _ _ _ rfl rfl (fun h_ => ?_) (fun h_ => ?_)) | (refine st_geq rfl _ _ _ _ rfl _ _ _ rfl rfl (fun h_ => ?_) (fun h_ => ?_)) | (refine st_eql rfl _ _ _ _ rfl _ _ _ rfl rfl (fun h_ => ?_) (fun h_ => ?_)) | (refine st_neq rfl _ _ _ _ rfl _ _ _ rfl rfl (fun h_ => ?_) (fun h_ => ?_))) <;> go_prune)
            | ((with_reducible show wpList _ _ _ (⟨some 22, _, _, _, _, _⟩ :: _) _ _); refine BigFrame.wpList_want rfl fun _ hK => opw_mid (cs := [.slice Ay my cy, .slice Am mn cm]) rfl rfl (rng2 c0 c1) Tryd.underlying33 rfl (by kernel_rfl) (hK _ _ ?_))
            | ((with_reducible show wpList _ _ _ (⟨some 5, _, _, _, _, _⟩ :: _) _ _); refine st_allocz hS rfl _ rfl (by kernel_rfl) #[.slice none 0 0, .slice none 0 0] (by kernel_rfl) ?_; clear hS; intro g5 w_ hS; (try simp only [Act.put, Act.eval, List.set_cons_zero, List.set_cons_succ, List.setIfInBounds_toArray, Array.getD_eq_getD_getElem?, List.getElem?_toArray, List.getElem?_cons_succ, List.getElem?_cons_zero, Option.getD_some, Value.cells] at hS))
            | ((with_reducible show wpList _ _ _ (⟨_, .store _ _ _, _, _, _, _⟩ :: _) _ _); (first | (refine st_store hS 0 rfl _ _ _ rfl _ _ rfl rfl _ _ rfl (by kernel_rfl) (by kernel_rfl) (by kernel_rfl) ?_) | (refine st_store hS 1 rfl _ _ _ rfl _ _ rfl rfl _ _ rfl (by kernel_rfl) (by kernel_rfl) (by kernel_rfl) ?_) | (refine st_store hS 2 rfl _ _ _ rfl _ _ rfl rfl _ _ rfl (by kernel_rfl) (by kernel_rfl) (by kernel_rfl) ?_) | (refine st_store hS 3 rfl _ _ _ rfl _ _ rfl rfl _ _ rfl (by kernel_rfl) (by kernel_rfl) (by kernel_rfl) ?_) | (refine st_cstore hS 0 rfl _ _ _ rfl _ _ _ rfl rfl rfl (by first | (simp; done) | (simp; omega) | exact of_decide_eq_true (by kernel_rfl)) rfl (by first | rfl | assumption) (by kernel_rfl) ?_) | (refine st_cstore hS 1 rfl _ _ _ rfl _ _ _ rfl rfl rfl (by first | (simp; done) | (simp; omega) | exact of_decide_eq_true (by kernel_rfl)) rfl (by first | rfl | assumption) (by kernel_rfl) ?_) | (refine st_cstore hS 2 rfl _ _ _ rfl _ _ _ rfl rfl rfl (by first | (simp; done) | (simp; omega) | exact of_decide_eq_true (by kernel_rfl)) rfl (by first | rfl | assumption) (by kernel_rfl) ?_) | (refine st_cstore hS 3 rfl _ _ _ rfl _ _ _ rfl rfl rfl (by first | (simp; done) | (simp; omega) | exact of_decide_eq_true (by kernel_rfl)) rfl (by first | rfl | assumption) (by kernel_rfl) ?_)); clear hS; intro w_ hS; (try simp only [Act.put, Act.eval, List.set_cons_zero, List.set_cons_succ, List.setIfInBounds_toArray, Array.getD_eq_getD_getElem?, List.getElem?_toArray, List.getElem?_cons_succ, List.getElem?_cons_zero, Option.getD_some, Value.cells] at hS)))
          refine wp_region_tail (fun i__ v w => match i__ with
            | 0 => v = .agg #[u]
            | 1 => v = .agg #[.int .i64 R, .pointer (some ⟨q, 0, none⟩), .slice Cs ns cs, .slice Ar rl.length cr, .slice An nl.length cn, .slice (some ⟨b, o2, none⟩) gl.length cg]
            | 2 => v = .agg #[.slice Ay my cy, .slice Am mn cm]
            | 3 => IsSet w (fun _ => True) v (depC L z)
            | 4 => ∃ u, v = .agg #[u] ∧ u.oneCell' = true ∧ IsSet w (fun z => w_.heap.size ≤ z) (.agg #[u]) (N0 ||| depC L z)
            | 5 => True
            | _ => True) 5 [] (by kernel_rfl) (by kernel_rfl) (by kernel_rfl) (by kernel_rfl) (by kernel_rfl) ?mono ⟨.inr ?r0, .inr ?r1, .inr ?r2, .inr ?r3, .inr ?r4, .inl (by decide), trivial⟩ ?post
          case mono =>
            intro i v w w' h hb
            match i, h with
            | 0, h => exact h
            | 1, h => exact h
            | 2, h => exact h
            | 3, h => exact h.ext hb
            | 4, h => exact ⟨_, h.choose_spec.1, h.choose_spec.2.1, h.choose_spec.2.2.ext hb⟩
            | 5, h => exact h
            | _ + 6, h => trivial
          case r0 =>
            refine trule fun b__ w hW hold hpre => ⟨fun hwant K hK => ?_, fun hwant => ?_⟩
            · clear hwant
              have e3 : b__.eval (.tmp 3) = .pointer (some ⟨g3, 0, none⟩) := (hold 3 (by kernel_rfl)).trans rfl
              exact opw_row rfl e3 ((hS.ext (undrew hW)).box 1 rfl) Tryd.underlying31 rfl (by kernel_rfl) (hK _ _ rfl (Below.refl _ _))
            · rw [want_none rfl] at hwant; cases hwant
          case r1 =>
            refine trule fun b__ w hW hold hpre => ⟨fun hwant K hK => ?_, fun hwant => ?_⟩
            · clear hwant
              have e1 : b__.eval (.tmp 1) = .pointer (some ⟨g1, 0, none⟩) := (hold 1 (by kernel_rfl)).trans rfl
              exact opw_row rfl e1 ((hS.ext (undrew hW)).box 3 rfl) Tryd.underlying43 rfl (by kernel_rfl) (hK _ _ rfl (Below.refl _ _))
            · rw [want_none rfl] at hwant; cases hwant
          case r2 =>
            refine trule fun b__ w hW hold hpre => ⟨fun hwant K hK => ?_, fun hwant => ?_⟩
            · clear hwant
              have e5 : b__.eval (.tmp 5) = .pointer (some ⟨g5, 0, none⟩) := (hold 5 (by kernel_rfl)).trans rfl
              exact opw_row rfl e5 ((hS.ext (undrew hW)).box 0 rfl) Tryd.underlying33 rfl (by kernel_rfl) (hK _ _ rfl (Below.refl _ _))
            · rw [want_none rfl] at hwant; cases hwant
          case r3 =>
            refine trule fun b__ w hW hold hpre => ⟨fun hwant K hK => ?_, fun hwant => ?_⟩
            · clear hwant
              have e24 : b__.eval (.tmp 24) = .agg #[.int .i64 R, .pointer (some ⟨q, 0, none⟩), .slice Cs ns cs, .slice Ar rl.length cr, .slice An nl.length cn, .slice (some ⟨b, o2, none⟩) gl.length cg] := hpre ⟨1, _⟩ (Array.mem_of_getElem? (i := 0) rfl) rfl _ _ rfl rfl
              have e25 : b__.eval (.tmp 25) = .agg #[.slice Ay my cy, .slice Am mn cm] := hpre ⟨2, _⟩ (Array.mem_of_getElem? (i := 1) rfl) rfl _ _ rfl rfl
              refine opw_call rfl (by kernel_rfl) (by simp only [List.map_cons, List.map_nil, e24, e25]) (depends_any (kp _ _ (kc.out _ _ (hS.ext (undrew hW)).ro).1) rfl HH.out (kt _ _ (kc.out _ _ (hS.ext (undrew hW)).ro).1) (kc.out _ _ (hS.ext (undrew hW)).ro).2.2) fun v w' h hb => ?_
              exact hK v w' (h.imp fun _ _ _ => trivial) hb
            · rw [want_none rfl] at hwant; cases hwant
          case r4 =>
            refine trule fun b__ w hW hold hpre => ⟨fun hwant K hK => ?_, fun hwant => ?_⟩
            · clear hwant
              have e23 : b__.eval (.tmp 23) = .agg #[u] := hpre ⟨0, _⟩ (Array.mem_of_getElem? (i := 0) rfl) rfl _ _ rfl rfl
              have e26 : (fun (v : Value) (w : World) => IsSet w (fun _ => True) v (depC L z)) (b__.eval (.tmp 26)) w := hpre ⟨3, _⟩ (Array.mem_of_getElem? (i := 1) rfl) rfl _ _ rfl rfl
              refine opw_call rfl (by kernel_rfl) (by simp only [List.map_cons, List.map_nil, e23]) (or_any (.agg #[u]) _ N0 _ w _ _ (kc.out _ _ (hS.ext (undrew hW)).ro).2.1 e26) fun v w' h hb => ?_
              obtain ⟨u, rfl, h1⟩ := set_one h
              exact hK _ w' ⟨u, rfl, h1, h.imp fun z hz _ => Nat.le_trans (undrew hW).size hz⟩ hb
            · rw [want_none rfl] at hwant; cases hwant
          case post =>
            intro b__ wz hW hdf hsz hold hT
            have e3 : b__.eval (.tmp 3) = .pointer (some ⟨g3, 0, none⟩) := (hold 3 (by kernel_rfl)).trans rfl
            have e27 : (fun (v : Value) (w : World) => ∃ u, v = .agg #[u] ∧ u.oneCell' = true ∧ IsSet w (fun z => w_.heap.size ≤ z) (.agg #[u]) (N0 ||| depC L z)) (b__.eval (.tmp 27)) wz := hT 4 _ 27 (by decide) rfl rfl
            have e23 : b__.eval (.tmp 23) = .agg #[u] := hT 0 _ 23 (by decide) rfl rfl
            have e24 : b__.eval (.tmp 24) = .agg #[.int .i64 R, .pointer (some ⟨q, 0, none⟩), .slice Cs ns cs, .slice Ar rl.length cr, .slice An nl.length cn, .slice (some ⟨b, o2, none⟩) gl.length cg] := hT 1 _ 24 (by decide) rfl rfl
            have e25 : b__.eval (.tmp 25) = .agg #[.slice Ay my cy, .slice Am mn cm] := hT 2 _ 25 (by decide) rfl rfl
            have e26 : (fun (v : Value) (w : World) => IsSet w (fun _ => True) v (depC L z)) (b__.eval (.tmp 26)) wz := hT 3 _ 26 (by decide) rfl rfl
            obtain ⟨vs, hvs, hb⟩ := frame_of hdf hsz hold
            clear e3
            replace e27 := (hvs 27) ▸ e27
            replace e23 : vs 23 = .agg #[u] := (hvs 23).symm.trans e23
            replace e24 : vs 24 = .agg #[.int .i64 R, .pointer (some ⟨q, 0, none⟩), .slice Cs ns cs, .slice Ar rl.length cr, .slice An nl.length cn, .slice (some ⟨b, o2, none⟩) gl.length cg] := (hvs 24).symm.trans e24
            replace e25 : vs 25 = .agg #[.slice Ay my cy, .slice Am mn cm] := (hvs 25).symm.trans e25
            replace e26 := (hvs 26) ▸ e26
            subst hb
            clear hvs hold hT hdf hsz
            simp only [setAll, Act.put, List.setIfInBounds_toArray, List.set_cons_zero, List.set_cons_succ, List.getElem_toArray, List.getElem_cons_succ, List.getElem_cons_zero]
            (intro o_ ho_; simp only [List.getElem?_toArray, List.getElem?_cons_succ, List.getElem?_cons_zero, Option.some.injEq] at ho_; subst ho_)
            obtain ⟨un, e27, hu1, hun⟩ := e27
            have hsW := hS.size
            have hS1 := hS.ret hW (stable_inter (stable_set (v := .agg #[un]) (N := N0 ||| depC L z)) fun z => w0.heap.size ≤ z) (hun.imp fun z hz _ => ⟨hz, Nat.le_trans hsW hz⟩)
            refine opw_store rfl rfl e27 (hS1.box 1 rfl) (by kernel_rfl) rfl (by simpa using hu1) fun w4 h1 hU => ?_
            have hS2 := (hS1.upd 1 rfl (.box g3 31 #[un]) (upd_gb hU) ⟨(hS1.holds (.box g3 31 #[u]) (by simp)).1, h1⟩ fun _ e => .inl e)
            simp only [TailWp]
            simp only [Act.put, List.setIfInBounds_toArray, List.set_cons_zero, List.set_cons_succ]
            clear hS hS1 h1 hU hW hun e27
            have hS := hS2
            clear hS2
            go_wp2_with fail
            exact ⟨⟨j + 1, un, N0 ||| depC L z, by go_num, hlj, HI2, (hS.sub (List.sublist_cons_self _ _)).mono (KS.out.and (stable_inter stable_set fun z => w0.heap.size ≤ z)) fun D w h => ⟨(kc.out _ _ h.1).1, h.2⟩⟩, by simp [intOf]; omega⟩
        · obtain rfl : gl.length = j := by omega
          have HI2 : Hid (Low L ⟨R, some L, st, rl, nl, gl⟩ N0 ∧ ∀ c ∈ gl, Sub (depC L c) N0) := Lib.hid ⟨HI.out.1, fun c hc => HI.out.2 c (by rw [List.take_length]; exact hc)⟩
          clear HI
          go_wp2_with (first | ((with_reducible show wpList _ _ _ (⟨_, .binOp _ _ _ _ _, _, _, _, _⟩ :: _) _ _); (first | (refine st_lss rfl _ _ _ _ rfl _ _ _ rfl rfl (fun h_ => ?_) (fun h_ => ?_)) | (refine st_leq rfl _ _ _ _ rfl _ _ _ rfl rfl (fun h_ => ?_) (fun h_ => ?_)) | (refine st_gtr rfl _ _ _ _ rfl _ _ _ rfl rfl (fun h_ => ?_) (fun h_ => ?_)) | (refine st_geq rfl _ _ _ _ rfl _ _ _ rfl rfl (fun h_ => ?_) (fun h_ => ?_)) | (refine st_eql rfl _ _ _ _ rfl _ _ _ rfl rfl (fun h_ => ?_) (fun h_ => ?_)) | (refine st_neq rfl _ _ _ _ rfl _ _ _ rfl rfl (fun h_ => ?_) (fun h_ => ?_))) <;> go_prune))
          go_loopg [] (2 ^ 64 - N0) (fun k wr => ∃ (u : Value) (B : Nat), 2 ^ 64 - B ≤ k ∧ Hid (Low L ⟨R, some L, st, rl, nl, gl⟩ B ∧ ∀ c ∈ gl, Sub (depC L c) B) ∧ St w0 wr [.box g3 31 #[u], .box g2 31 #[.slice none 0 0], .box g1 43 #[.int .i64 R, .pointer (some ⟨q, 0, none⟩), .slice Cs ns cs, .slice Ar rl.length cr, .slice An nl.length cn, .slice Ag gl.length cg]] (fun D w => K D w ∧ IsSet w (fun z => D z ∧ w0.heap.size ≤ z) (.agg #[u]) B))
          case atStart => exact ⟨u, N0, Nat.le_refl _, HI2, hS⟩
          case round =>
            clear hS HI2
            obtain ⟨uB, B, hgk, HI, hS⟩ := hrel
            obtain ⟨Ab, cb, lb, he, -⟩ := hS.ro.2.parts
            obtain rfl : uB = .slice Ab lb.length cb := by injection he with he; simpa using he
            clear he
            obtain ⟨nb, hnb⟩ : ∃ nb, nb = lb.length := ⟨_, rfl⟩
            rw [← hnb] at hS
            clear hnb
            have HGK := Lib.hid hgk
            clear hgk
            go_wp2_with (first
              | ((with_reducible show wpList _ _ _ (⟨_, .load 31 _, _, _, _, _⟩ :: _) _ _); first | (refine st_setl hS 0 rfl _ _ rfl _ _ rfl _ _ rfl _ (by first | rfl | assumption) Tryd.underlying31 rfl (by kernel_rfl) ?_) | (refine st_setl hS 1 rfl _ _ rfl _ _ rfl _ _ rfl _ (by first | rfl | assumption) Tryd.underlying31 rfl (by kernel_rfl) ?_) | (refine st_setl hS 2 rfl _ _ rfl _ _ rfl _ _ rfl _ (by first | rfl | assumption) Tryd.underlying31 rfl (by kernel_rfl) ?_) | (refine st_setl hS 3 rfl _ _ rfl _ _ rfl _ _ rfl _ (by first | rfl | assumption) Tryd.underlying31 rfl (by kernel_rfl) ?_) | (refine st_setl hS 4 rfl _ _ rfl _ _ rfl _ _ rfl _ (by first | rfl | assumption) Tryd.underlying31 rfl (by kernel_rfl) ?_) | (refine st_setl hS 5 rfl _ _ rfl _ _ rfl _ _ rfl _ (by first | rfl | assumption) Tryd.underlying31 rfl (by kernel_rfl) ?_))
              | ((with_reducible show wpList _ _ _ (⟨some 6, _, _, _, _, _⟩ :: _) _ _); refine st_allocz hS rfl _ rfl (by kernel_rfl) #[.slice none 0 0] (by kernel_rfl) ?_; clear hS; intro g6 w_ hS; (try simp only [Act.put, Act.eval, List.set_cons_zero, List.set_cons_succ, List.setIfInBounds_toArray, Array.getD_eq_getD_getElem?, List.getElem?_toArray, List.getElem?_cons_succ, List.getElem?_cons_zero, Option.getD_some, Value.cells] at hS))
              | ((with_reducible show wpList _ _ _ (⟨_, .store _ _ _, _, _, _, _⟩ :: _) _ _); (first | (refine st_store hS 0 rfl _ _ _ rfl _ _ rfl rfl _ _ rfl (by kernel_rfl) (by kernel_rfl) (by kernel_rfl) ?_) | (refine st_store hS 1 rfl _ _ _ rfl _ _ rfl rfl _ _ rfl (by kernel_rfl) (by kernel_rfl) (by kernel_rfl) ?_) | (refine st_store hS 2 rfl _ _ _ rfl _ _ rfl rfl _ _ rfl (by kernel_rfl) (by kernel_rfl) (by kernel_rfl) ?_) | (refine st_store hS 3 rfl _ _ _ rfl _ _ rfl rfl _ _ rfl (by kernel_rfl) (by kernel_rfl) (by kernel_rfl) ?_) | (refine st_cstore hS 0 rfl _ _ _ rfl _ _ _ rfl rfl rfl (by first | (simp; done) | (simp; omega) | exact of_decide_eq_true (by kernel_rfl)) rfl (by first | rfl | assumption) (by kernel_rfl) ?_) | (refine st_cstore hS 1 rfl _ _ _ rfl _ _ _ rfl rfl rfl (by first | (simp; done) | (simp; omega) | exact of_decide_eq_true (by kernel_rfl)) rfl (by first | rfl | assumption) (by kernel_rfl) ?_) | (refine st_cstore hS 2 rfl _ _ _ rfl _ _ _ rfl rfl rfl (by first | (simp; done) | (simp; omega) | exact of_decide_eq_true (by kernel_rfl)) rfl (by first | rfl | assumption) (by kernel_rfl) ?_) | (refine st_cstore hS 3 rfl _ _ _ rfl _ _ _ rfl rfl rfl (by first | (simp; done) | (simp; omega) | exact of_decide_eq_true (by kernel_rfl)) rfl (by first | rfl | assumption) (by kernel_rfl) ?_)); clear hS; intro w_ hS; (try simp only [Act.put, Act.eval, List.set_cons_zero, List.set_cons_succ, List.setIfInBounds_toArray, Array.getD_eq_getD_getElem?, List.getElem?_toArray, List.getElem?_cons_succ, List.getElem?_cons_zero, Option.getD_some, Value.cells] at hS))
              | ((with_reducible show wpList _ _ _ (⟨_, .load _ _, _, _, _, _⟩ :: _) _ _); first | (refine st_cell hS 0 rfl _ _ rfl _ _ rfl _ _ rfl (by decide +kernel) _ (by first | assumption | rfl) ?_) | (refine st_cell hS 1 rfl _ _ rfl _ _ rfl _ _ rfl (by decide +kernel) _ (by first | assumption | rfl) ?_) | (refine st_cell hS 2 rfl _ _ rfl _ _ rfl _ _ rfl (by decide +kernel) _ (by first | assumption | rfl) ?_) | (refine st_cell hS 3 rfl _ _ rfl _ _ rfl _ _ rfl (by decide +kernel) _ (by first | assumption | rfl) ?_) | (refine st_cell hS 4 rfl _ _ rfl _ _ rfl _ _ rfl (by decide +kernel) _ (by first | assumption | rfl) ?_) | (refine st_cell hS 5 rfl _ _ rfl _ _ rfl _ _ rfl (by decide +kernel) _ (by first | assumption | rfl) ?_) | (refine st_cell hS 6 rfl _ _ rfl _ _ rfl _ _ rfl (by decide +kernel) _ (by first | assumption | rfl) ?_) | (refine st_cell hS 7 rfl _ _ rfl _ _ rfl _ _ rfl (by decide +kernel) _ (by first | assumption | rfl) ?_)))
            go_loopw [33] (fun i wr => ∃ (j : Nat) (u : Value) (N : Nat), i = .int .i64 (j : Nat) ∧ j ≤ rl.length ∧ Hid (Seen L ⟨R, some L, st, rl, nl, gl⟩ B N j 0) ∧ St w0 wr [.box g6 31 #[.slice Ab nb cb], .box g3 31 #[u], .box g2 31 #[.slice none 0 0], .box g1 43 #[.int .i64 R, .pointer (some ⟨q, 0, none⟩), .slice Cs ns cs, .slice Ar rl.length cr, .slice An nl.length cn, .slice Ag gl.length cg]] (fun D w => (K D w ∧ IsSet w D (.agg #[.slice Ab nb cb]) B) ∧ IsSet w (fun z => D z ∧ w0.heap.size ≤ z) (.agg #[u]) N)) (fun i _ => rl.length - (intOf i).toNat)
            case atStart => exact ⟨0, _, B, rfl, by omega, Lib.hid (Seen.start HI.out.1 HI.out.2), hS.mono ((KS.out.and stable_set).and (stable_inter stable_set fun z => w0.heap.size ≤ z)) fun D w h => ⟨⟨h.1, h.2.imp fun z hz _ => hz.1⟩, h.2⟩⟩
            case round =>
              clear hS HI
              obtain ⟨j, u, N0, rfl, hj, HI, hS⟩ := hrel
              by_cases hlj : j < rl.length
              · obtain ⟨b, o2, y, n, rfl, _, hb, c0, c1, c2, c3, c4, hy, hn⟩ := (kr _ _ hS.ro.1.1).at_ hlj
                obtain ⟨Ay, my, cy, rfl⟩ := hy.shape
                obtain ⟨Am, mn, cm, rfl⟩ := hn.shape
                have HGj := Lib.hid (getD_at dfltR hlj)
                obtain ⟨KC, kc, hS2⟩ : ∃ KC : (Nat → Prop) → World → Prop, Hid (∀ D w, KC D w → (K D w ∧ IsSet w D (.agg #[.slice Ab nb cb]) B) ∧ IsSet w (fun z => D z ∧ w0.heap.size ≤ z) (.agg #[u]) N0 ∧ IsSet w D (.agg #[.slice Ay my cy]) (rl.getD j dfltR).yes ∧ IsSet w D (.agg #[.slice Am mn cm]) (rl.getD j dfltR).no) ∧ St w0 wr [.box g6 31 #[.slice Ab nb cb], .box g3 31 #[u], .box g2 31 #[.slice none 0 0], .box g1 43 #[.int .i64 R, .pointer (some ⟨q, 0, none⟩), .slice Cs ns cs, .slice (some ⟨b, o2, none⟩) rl.length cr, .slice An nl.length cn, .slice Ag gl.length cg]] KC := ⟨_, Lib.hid fun D w h => ⟨h.1.1, h.1.2, h.2.1, h.2.2⟩, hS.add (D := Free _) (stable_set.and stable_set) ⟨hy, hn⟩ fun _ h _ => h⟩
                clear hS hy hn
                have hS := hS2
                clear hS2
                generalize rl.getD j dfltR = z at *
                obtain ⟨rv, ry, rn, rt, ro⟩ := z
                dsimp only at kc c0 c1 c2 c3 c4
                obtain ⟨b1, hb1⟩ : ∃ b, b = hasB N0 rt := ⟨_, rfl⟩
                have HB1 := Lib.hid hb1
                cases rv
                · cases b1
                  · have HI2 := Lib.hid (HI.out.ruleN HGj.out (.inr hb1.symm))
                    clear hb1 HI
                    go_wp2_with (first
                      | ((with_reducible show wpList _ _ _ (⟨_, .binOp _ _ _ _ _, _, _, _, _⟩ :: _) _ _); (first | (refine st_lss rfl _ _ _ _ rfl _ _ _ rfl rfl (fun h_ => ?_) (fun h_ => ?_)) | (refine st_leq rfl _ _ _ _ rfl _ _ _ rfl rfl (fun h_ => ?_) (fun h_ => ?_)) | (refine st_gtr rfl _ _ _ _ rfl _ _ _ rfl rfl (fun h_ => ?_) (fun h_ => ?_)) | (refine st_geq rfl _ _ _ _ rfl _ _ _ rfl rfl (fun h_ => ?_) (fun h_ => ?_)) | (refine st_eql rfl _ _ _ _ rfl _ _ _ rfl rfl (fun h_ => ?_) (fun h_ => ?_)) | (refine st_neq rfl _ _ _ _ rfl _ _ _ rfl rfl (fun h_ => ?_) (fun h_ => ?_))) <;> go_prune)
                      | ((with_reducible show wpList _ _ _ (⟨some 36, _, _, _, _, _⟩ :: _) _ _); refine BigFrame.wpList_want rfl fun _ hK => opw_mid (cs := [.bool _, .slice Ay my cy, .slice Am mn cm, .int .i64 rt, .int .i64 ro]) rfl rfl (rng5 c0 c1 c2 c3 c4) Tryd.underlying39 rfl (by kernel_rfl) (hK _ _ ?_))
                      | ((with_reducible show wpList _ _ _ (⟨some 8, _, _, _, _, _⟩ :: _) _ _); refine st_allocz hS rfl _ rfl (by kernel_rfl) #[.bool false, .slice none 0 0, .slice none 0 0, .int .i64 0, .int .i64 0] (by kernel_rfl) ?_; clear hS; intro g8 w_ hS; (try simp only [Act.put, Act.eval, List.set_cons_zero, List.set_cons_succ, List.setIfInBounds_toArray, Array.getD_eq_getD_getElem?, List.getElem?_toArray, List.getElem?_cons_succ, List.getElem?_cons_zero, Option.getD_some, Value.cells] at hS))
                      | ((with_reducible show wpList _ _ _ (⟨_, .store _ _ _, _, _, _, _⟩ :: _) _ _); (first | (refine st_store hS 0 rfl _ _ _ rfl _ _ rfl rfl _ _ rfl (by kernel_rfl) (by kernel_rfl) (by kernel_rfl) ?_) | (refine st_store hS 1 rfl _ _ _ rfl _ _ rfl rfl _ _ rfl (by kernel_rfl) (by kernel_rfl) (by kernel_rfl) ?_) | (refine st_store hS 2 rfl _ _ _ rfl _ _ rfl rfl _ _ rfl (by kernel_rfl) (by kernel_rfl) (by kernel_rfl) ?_) | (refine st_store hS 3 rfl _ _ _ rfl _ _ rfl rfl _ _ rfl (by kernel_rfl) (by kernel_rfl) (by kernel_rfl) ?_) | (refine st_cstore hS 0 rfl _ _ _ rfl _ _ _ rfl rfl rfl (by first | (simp; done) | (simp; omega) | exact of_decide_eq_true (by kernel_rfl)) rfl (by first | rfl | assumption) (by kernel_rfl) ?_) | (refine st_cstore hS 1 rfl _ _ _ rfl _ _ _ rfl rfl rfl (by first | (simp; done) | (simp; omega) | exact of_decide_eq_true (by kernel_rfl)) rfl (by first | rfl | assumption) (by kernel_rfl) ?_) | (refine st_cstore hS 2 rfl _ _ _ rfl _ _ _ rfl rfl rfl (by first | (simp; done) | (simp; omega) | exact of_decide_eq_true (by kernel_rfl)) rfl (by first | rfl | assumption) (by kernel_rfl) ?_) | (refine st_cstore hS 3 rfl _ _ _ rfl _ _ _ rfl rfl rfl (by first | (simp; done) | (simp; omega) | exact of_decide_eq_true (by kernel_rfl)) rfl (by first | rfl | assumption) (by kernel_rfl) ?_)); clear hS; intro w_ hS; (try simp only [Act.put, Act.eval, List.set_cons_zero, List.set_cons_succ, List.setIfInBounds_toArray, Array.getD_eq_getD_getElem?, List.getElem?_toArray, List.getElem?_cons_succ, List.getElem?_cons_zero, Option.getD_some, Value.cells] at hS))
                      | ((with_reducible show wpList _ _ _ (⟨_, .load 31 _, _, _, _, _⟩ :: _) _ _); first | (refine st_setl hS 0 rfl _ _ rfl _ _ rfl _ _ rfl _ (by first | rfl | assumption) Tryd.underlying31 rfl (by kernel_rfl) ?_) | (refine st_setl hS 1 rfl _ _ rfl _ _ rfl _ _ rfl _ (by first | rfl | assumption) Tryd.underlying31 rfl (by kernel_rfl) ?_) | (refine st_setl hS 2 rfl _ _ rfl _ _ rfl _ _ rfl _ (by first | rfl | assumption) Tryd.underlying31 rfl (by kernel_rfl) ?_) | (refine st_setl hS 3 rfl _ _ rfl _ _ rfl _ _ rfl _ (by first | rfl | assumption) Tryd.underlying31 rfl (by kernel_rfl) ?_) | (refine st_setl hS 4 rfl _ _ rfl _ _ rfl _ _ rfl _ (by first | rfl | assumption) Tryd.underlying31 rfl (by kernel_rfl) ?_) | (refine st_setl hS 5 rfl _ _ rfl _ _ rfl _ _ rfl _ (by first | rfl | assumption) Tryd.underlying31 rfl (by kernel_rfl) ?_))
                      | ((with_reducible show wpList _ _ _ (⟨_, .load _ _, _, _, _, _⟩ :: _) _ _); first | (refine st_cell hS 0 rfl _ _ rfl _ _ rfl _ _ rfl (by decide +kernel) _ (by first | assumption | rfl) ?_) | (refine st_cell hS 1 rfl _ _ rfl _ _ rfl _ _ rfl (by decide +kernel) _ (by first | assumption | rfl) ?_) | (refine st_cell hS 2 rfl _ _ rfl _ _ rfl _ _ rfl (by decide +kernel) _ (by first | assumption | rfl) ?_) | (refine st_cell hS 3 rfl _ _ rfl _ _ rfl _ _ rfl (by decide +kernel) _ (by first | assumption | rfl) ?_) | (refine st_cell hS 4 rfl _ _ rfl _ _ rfl _ _ rfl (by decide +kernel) _ (by first | assumption | rfl) ?_) | (refine st_cell hS 5 rfl _ _ rfl _ _ rfl _ _ rfl (by decide +kernel) _ (by first | assumption | rfl) ?_) | (refine st_cell hS 6 rfl _ _ rfl _ _ rfl _ _ rfl (by decide +kernel) _ (by first | assumption | rfl) ?_) | (refine st_cell hS 7 rfl _ _ rfl _ _ rfl _ _ rfl (by decide +kernel) _ (by first | assumption | rfl) ?_))
                      | (go_at_call 20; refine (has_any _ N0 rt _ _ (kc.out _ _ hS.ro).2.1).mono ?_; rw [← HB1.out]; rintro r_ w_ ⟨_, rfl, rfl, hb_⟩; replace hS := hS.ext hb_; clear hb_))
                    exact ⟨⟨j + 1, u, N0, by go_num, hlj, HI2, (hS.sub (List.sublist_cons_self _ _)).mono ((KS.out.and stable_set).and (stable_inter stable_set fun z => w0.heap.size ≤ z)) fun D w h => ⟨(kc.out _ _ h).1, (kc.out _ _ h).2.1⟩⟩, by simp [intOf]; omega⟩
                  · have HI2 := Lib.hid (HI.out.ruleY HGj.out rfl hb1.symm)
                    have HZ : Hid (depR L ⟨false, ry, rn, rt, ro⟩ = depM L (ry ||| rn)) := Lib.hid rfl
                    generalize depR L ⟨false, ry, rn, rt, ro⟩ = dz at *
                    clear hb1 HI
                    go_wp2_with (first
                      | ((with_reducible show wpList _ _ _ (⟨_, .binOp _ _ _ _ _, _, _, _, _⟩ :: _) _ _); (first | (refine st_lss rfl _ _ _ _ rfl _ _ _ rfl rfl (fun h_ => ?_) (fun h_ => ?_)) | (refine st_leq rfl _ _ _ _ rfl _ _ _ rfl rfl (fun h_ => ?_) (fun h_ => ?_)) | (refine st_gtr rfl _ _ _ _ rfl _ _ _ rfl rfl (fun h_ => ?_) (fun h_ => ?_)) | (refine st_geq rfl _ _ _ _ rfl _ _ _ rfl rfl (fun h_ => ?_) (fun h_ => ?_)) | (refine st_eql rfl _ _ _ _ rfl _ _ _ rfl rfl (fun h_ => ?_) (fun h_ => ?_)) | (refine st_neq rfl _ _ _ _ rfl _ _ _ rfl rfl (fun h_ => ?_) (fun h_ => ?_))) <;> go_prune)
                      | ((with_reducible show wpList _ _ _ (⟨some 36, _, _, _, _, _⟩ :: _) _ _); refine BigFrame.wpList_want rfl fun _ hK => opw_mid (cs := [.bool _, .slice Ay my cy, .slice Am mn cm, .int .i64 rt, .int .i64 ro]) rfl rfl (rng5 c0 c1 c2 c3 c4) Tryd.underlying39 rfl (by kernel_rfl) (hK _ _ ?_))
                      | ((with_reducible show wpList _ _ _ (⟨some 8, _, _, _, _, _⟩ :: _) _ _); refine st_allocz hS rfl _ rfl (by kernel_rfl) #[.bool false, .slice none 0 0, .slice none 0 0, .int .i64 0, .int .i64 0] (by kernel_rfl) ?_; clear hS; intro g8 w_ hS; (try simp only [Act.put, Act.eval, List.set_cons_zero, List.set_cons_succ, List.setIfInBounds_toArray, Array.getD_eq_getD_getElem?, List.getElem?_toArray, List.getElem?_cons_succ, List.getElem?_cons_zero, Option.getD_some, Value.cells] at hS))
                      | ((with_reducible show wpList _ _ _ (⟨_, .store _ _ _, _, _, _, _⟩ :: _) _ _); (first | (refine st_store hS 0 rfl _ _ _ rfl _ _ rfl rfl _ _ rfl (by kernel_rfl) (by kernel_rfl) (by kernel_rfl) ?_) | (refine st_store hS 1 rfl _ _ _ rfl _ _ rfl rfl _ _ rfl (by kernel_rfl) (by kernel_rfl) (by kernel_rfl) ?_) | (refine st_store hS 2 rfl _ _ _ rfl _ _ rfl rfl _ _ rfl (by kernel_rfl) (by kernel_rfl) (by kernel_rfl) ?_) | (refine st_store hS 3 rfl _ _ _ rfl _ _ rfl rfl _ _ rfl (by kernel_rfl) (by kernel_rfl) (by kernel_rfl) ?_) | (refine st_cstore hS 0 rfl _ _ _ rfl _ _ _ rfl rfl rfl (by first | (simp; done) | (simp; omega) | exact of_decide_eq_true (by kernel_rfl)) rfl (by first | rfl | assumption) (by kernel_rfl) ?_) | (refine st_cstore hS 1 rfl _ _ _ rfl _ _ _ rfl rfl rfl (by first | (simp; done) | (simp; omega) | exact of_decide_eq_true (by kernel_rfl)) rfl (by first | rfl | assumption) (by kernel_rfl) ?_) | (refine st_cstore hS 2 rfl _ _ _ rfl _ _ _ rfl rfl rfl (by first | (simp; done) | (simp; omega) | exact of_decide_eq_true (by kernel_rfl)) rfl (by first | rfl | assumption) (by kernel_rfl) ?_) | (refine st_cstore hS 3 rfl _ _ _ rfl _ _ _ rfl rfl rfl (by first | (simp; done) | (simp; omega) | exact of_decide_eq_true (by kernel_rfl)) rfl (by first | rfl | assumption) (by kernel_rfl) ?_)); clear hS; intro w_ hS; (try simp only [Act.put, Act.eval, List.set_cons_zero, List.set_cons_succ, List.setIfInBounds_toArray, Array.getD_eq_getD_getElem?, List.getElem?_toArray, List.getElem?_cons_succ, List.getElem?_cons_zero, Option.getD_some, Value.cells] at hS))
                      | ((with_reducible show wpList _ _ _ (⟨_, .load 31 _, _, _, _, _⟩ :: _) _ _); first | (refine st_setl hS 0 rfl _ _ rfl _ _ rfl _ _ rfl _ (by first | rfl | assumption) Tryd.underlying31 rfl (by kernel_rfl) ?_) | (refine st_setl hS 1 rfl _ _ rfl _ _ rfl _ _ rfl _ (by first | rfl | assumption) Tryd.underlying31 rfl (by kernel_rfl) ?_) | (refine st_setl hS 2 rfl _ _ rfl _ _ rfl _ _ rfl _ (by first | rfl | assumption) Tryd.underlying31 rfl (by kernel_rfl) ?_) | (refine st_setl hS 3 rfl _ _ rfl _ _ rfl _ _ rfl _ (by first | rfl | assumption) Tryd.underlying31 rfl (by kernel_rfl) ?_) | (refine st_setl hS 4 rfl _ _ rfl _ _ rfl _ _ rfl _ (by first | rfl | assumption) Tryd.underlying31 rfl (by kernel_rfl) ?_) | (refine st_setl hS 5 rfl _ _ rfl _ _ rfl _ _ rfl _ (by first | rfl | assumption) Tryd.underlying31 rfl (by kernel_rfl) ?_))
                      | ((with_reducible show wpList _ _ _ (⟨_, .load _ _, _, _, _, _⟩ :: _) _ _); first | (refine st_cell hS 0 rfl _ _ rfl _ _ rfl _ _ rfl (by decide +kernel) _ (by first | assumption | rfl) ?_) | (refine st_cell hS 1 rfl _ _ rfl _ _ rfl _ _ rfl (by decide +kernel) _ (by first | assumption | rfl) ?_) | (refine st_cell hS 2 rfl _ _ rfl _ _ rfl _ _ rfl (by decide +kernel) _ (by first | assumption | rfl) ?_) | (refine st_cell hS 3 rfl _ _ rfl _ _ rfl _ _ rfl (by decide +kernel) _ (by first | assumption | rfl) ?_) | (refine st_cell hS 4 rfl _ _ rfl _ _ rfl _ _ rfl (by decide +kernel) _ (by first | assumption | rfl) ?_) | (refine st_cell hS 5 rfl _ _ rfl _ _ rfl _ _ rfl (by decide +kernel) _ (by first | assumption | rfl) ?_) | (refine st_cell hS 6 rfl _ _ rfl _ _ rfl _ _ rfl (by decide +kernel) _ (by first | assumption | rfl) ?_) | (refine st_cell hS 7 rfl _ _ rfl _ _ rfl _ _ rfl (by decide +kernel) _ (by first | assumption | rfl) ?_))
                      | (go_at_call 20; refine (has_any _ N0 rt _ _ (kc.out _ _ hS.ro).2.1).mono ?_; rw [← HB1.out]; rintro r_ w_ ⟨_, rfl, rfl, hb_⟩; replace hS := hS.ext hb_; clear hb_))
                    refine wp_region_tail (fun i__ v w => match i__ with
                      | 0 => v = .agg #[u]
                      | 1 => v = .agg #[.int .i64 R, .pointer (some ⟨q, 0, none⟩), .slice Cs ns cs, .slice (some ⟨b, o2, none⟩) rl.length cr, .slice An nl.length cn, .slice Ag gl.length cg]
                      | 2 => v = .pointer (some ⟨g8, 1, none⟩)
                      | 3 => v = .agg #[.slice Ay my cy, .slice Am mn cm]
                      | 4 => IsSet w (fun _ => True) v (dz)
                      | 5 => ∃ u, v = .agg #[u] ∧ u.oneCell' = true ∧ IsSet w (fun z => w_.heap.size ≤ z) (.agg #[u]) (N0 ||| dz)
                      | 6 => True
                      | _ => True) 6 [] (by kernel_rfl) (by kernel_rfl) (by kernel_rfl) (by kernel_rfl) (by kernel_rfl) ?mono ⟨.inr ?r0, .inr ?r1, .inr ?r2, .inr ?r3, .inr ?r4, .inr ?r5, .inl (by decide), trivial⟩ ?post
                    case mono =>
                      intro i v w w' h hb
                      match i, h with
                      | 0, h => exact h
                      | 1, h => exact h
                      | 2, h => exact h
                      | 3, h => exact h
                      | 4, h => exact h.ext hb
                      | 5, h => exact ⟨_, h.choose_spec.1, h.choose_spec.2.1, h.choose_spec.2.2.ext hb⟩
                      | 6, h => exact h
                      | _ + 7, h => trivial
                    case r0 =>
                      refine trule fun b__ w hW hold hpre => ⟨fun hwant K hK => ?_, fun hwant => ?_⟩
                      · clear hwant
                        have e3 : b__.eval (.tmp 3) = .pointer (some ⟨g3, 0, none⟩) := (hold 3 (by kernel_rfl)).trans rfl
                        exact opw_row rfl e3 ((hS.ext (undrew hW)).box 2 rfl) Tryd.underlying31 rfl (by kernel_rfl) (hK _ _ rfl (Below.refl _ _))
                      · rw [want_none rfl] at hwant; cases hwant
                    case r1 =>
                      refine trule fun b__ w hW hold hpre => ⟨fun hwant K hK => ?_, fun hwant => ?_⟩
                      · clear hwant
                        have e1 : b__.eval (.tmp 1) = .pointer (some ⟨g1, 0, none⟩) := (hold 1 (by kernel_rfl)).trans rfl
                        exact opw_row rfl e1 ((hS.ext (undrew hW)).box 4 rfl) Tryd.underlying43 rfl (by kernel_rfl) (hK _ _ rfl (Below.refl _ _))
                      · rw [want_none rfl] at hwant; cases hwant
                    case r2 =>
                      refine trule fun b__ w hW hold hpre => ⟨fun hwant K hK => ?_, fun hwant => ?_⟩
                      · clear hwant
                        have e8 : b__.eval (.tmp 8) = .pointer (some ⟨g8, 0, none⟩) := (hold 8 (by kernel_rfl)).trans rfl
                        exact opw_faddr rfl e8 (by kernel_rfl) (hK _ _ rfl (Below.refl _ _))
                      · rw [want_none rfl] at hwant; cases hwant
                    case r3 =>
                      refine trule fun b__ w hW hold hpre => ⟨fun hwant K hK => ?_, fun hwant => ?_⟩
                      · clear hwant
                        have e48 : b__.eval (.tmp 48) = .pointer (some ⟨g8, 1, none⟩) := hpre ⟨2, _⟩ (Array.mem_of_getElem? (i := 0) rfl) rfl _ _ rfl rfl
                        exact opw_mid (cs := [.slice Ay my cy, .slice Am mn cm]) rfl e48 (rng2 (((hS.ext (undrew hW)).box 0 rfl).cell 1) (((hS.ext (undrew hW)).box 0 rfl).cell 2)) Tryd.underlying33 rfl (by kernel_rfl) (hK _ _ rfl (Below.refl _ _))
                      · rw [want_none rfl] at hwant; cases hwant
                    case r4 =>
                      refine trule fun b__ w hW hold hpre => ⟨fun hwant K hK => ?_, fun hwant => ?_⟩
                      · clear hwant
                        have e47 : b__.eval (.tmp 47) = .agg #[.int .i64 R, .pointer (some ⟨q, 0, none⟩), .slice Cs ns cs, .slice (some ⟨b, o2, none⟩) rl.length cr, .slice An nl.length cn, .slice Ag gl.length cg] := hpre ⟨1, _⟩ (Array.mem_of_getElem? (i := 0) rfl) rfl _ _ rfl rfl
                        have e49 : b__.eval (.tmp 49) = .agg #[.slice Ay my cy, .slice Am mn cm] := hpre ⟨3, _⟩ (Array.mem_of_getElem? (i := 1) rfl) rfl _ _ rfl rfl
                        refine opw_call rfl (by kernel_rfl) (by simp only [List.map_cons, List.map_nil, e47, e49]) (depends_any (kp _ _ (kc.out _ _ (hS.ext (undrew hW)).ro).1.1) rfl HH.out (kt _ _ (kc.out _ _ (hS.ext (undrew hW)).ro).1.1) (show IsCube _ _ (.agg #[.slice Ay my cy, .slice Am mn cm]) (ry, rn) from ⟨_, _, rfl, (kc.out _ _ (hS.ext (undrew hW)).ro).2.2⟩)) fun v w' h hb => ?_
                        exact hK v w' (by rw [HZ.out]; exact h.imp fun _ _ _ => trivial) hb
                      · rw [want_none rfl] at hwant; cases hwant
                    case r5 =>
                      refine trule fun b__ w hW hold hpre => ⟨fun hwant K hK => ?_, fun hwant => ?_⟩
                      · clear hwant
                        have e46 : b__.eval (.tmp 46) = .agg #[u] := hpre ⟨0, _⟩ (Array.mem_of_getElem? (i := 0) rfl) rfl _ _ rfl rfl
                        have e50 : (fun (v : Value) (w : World) => IsSet w (fun _ => True) v (dz)) (b__.eval (.tmp 50)) w := hpre ⟨4, _⟩ (Array.mem_of_getElem? (i := 1) rfl) rfl _ _ rfl rfl
                        refine opw_call rfl (by kernel_rfl) (by simp only [List.map_cons, List.map_nil, e46]) (or_any (.agg #[u]) _ N0 _ w _ _ (kc.out _ _ (hS.ext (undrew hW)).ro).2.1 e50) fun v w' h hb => ?_
                        obtain ⟨u, rfl, h1⟩ := set_one h
                        exact hK _ w' ⟨u, rfl, h1, h.imp fun z hz _ => Nat.le_trans (undrew hW).size hz⟩ hb
                      · rw [want_none rfl] at hwant; cases hwant
                    case post =>
                      intro b__ wz hW hdf hsz hold hT
                      have e3 : b__.eval (.tmp 3) = .pointer (some ⟨g3, 0, none⟩) := (hold 3 (by kernel_rfl)).trans rfl
                      have e51 : (fun (v : Value) (w : World) => ∃ u, v = .agg #[u] ∧ u.oneCell' = true ∧ IsSet w (fun z => w_.heap.size ≤ z) (.agg #[u]) (N0 ||| dz)) (b__.eval (.tmp 51)) wz := hT 5 _ 51 (by decide) rfl rfl
                      have e46 : b__.eval (.tmp 46) = .agg #[u] := hT 0 _ 46 (by decide) rfl rfl
                      have e47 : b__.eval (.tmp 47) = .agg #[.int .i64 R, .pointer (some ⟨q, 0, none⟩), .slice Cs ns cs, .slice (some ⟨b, o2, none⟩) rl.length cr, .slice An nl.length cn, .slice Ag gl.length cg] := hT 1 _ 47 (by decide) rfl rfl
                      have e48 : b__.eval (.tmp 48) = .pointer (some ⟨g8, 1, none⟩) := hT 2 _ 48 (by decide) rfl rfl
                      have e49 : b__.eval (.tmp 49) = .agg #[.slice Ay my cy, .slice Am mn cm] := hT 3 _ 49 (by decide) rfl rfl
                      have e50 : (fun (v : Value) (w : World) => IsSet w (fun _ => True) v (dz)) (b__.eval (.tmp 50)) wz := hT 4 _ 50 (by decide) rfl rfl
                      obtain ⟨vs, hvs, hb⟩ := frame_of hdf hsz hold
                      clear e3
                      replace e51 := (hvs 51) ▸ e51
                      replace e46 : vs 46 = .agg #[u] := (hvs 46).symm.trans e46
                      replace e47 : vs 47 = .agg #[.int .i64 R, .pointer (some ⟨q, 0, none⟩), .slice Cs ns cs, .slice (some ⟨b, o2, none⟩) rl.length cr, .slice An nl.length cn, .slice Ag gl.length cg] := (hvs 47).symm.trans e47
                      replace e48 : vs 48 = .pointer (some ⟨g8, 1, none⟩) := (hvs 48).symm.trans e48
                      replace e49 : vs 49 = .agg #[.slice Ay my cy, .slice Am mn cm] := (hvs 49).symm.trans e49
                      replace e50 := (hvs 50) ▸ e50
                      subst hb
                      clear hvs hold hT hdf hsz
                      simp only [setAll, Act.put, List.setIfInBounds_toArray, List.set_cons_zero, List.set_cons_succ, List.getElem_toArray, List.getElem_cons_succ, List.getElem_cons_zero]
                      (intro o_ ho_; simp only [List.getElem?_toArray, List.getElem?_cons_succ, List.getElem?_cons_zero, Option.some.injEq] at ho_; subst ho_)
                      obtain ⟨un, e51, hu1, hun⟩ := e51
                      have hsW := hS.size
                      have hS1 := hS.ret hW (stable_inter (stable_set (v := .agg #[un]) (N := N0 ||| dz)) fun z => w0.heap.size ≤ z) (hun.imp fun z hz _ => ⟨hz, Nat.le_trans hsW hz⟩)
                      refine opw_store rfl rfl e51 (hS1.box 2 rfl) (by kernel_rfl) rfl (by simpa using hu1) fun w4 h1 hU => ?_
                      have hS2 := (hS1.upd 2 rfl (.box g3 31 #[un]) (upd_gb hU) ⟨(hS1.holds (.box g3 31 #[u]) (by simp)).1, h1⟩ fun _ e => .inl e)
                      simp only [TailWp]
                      simp only [Act.put, List.setIfInBounds_toArray, List.set_cons_zero, List.set_cons_succ]
                      clear hS hS1 h1 hU hW hun e51
                      have hS := hS2
                      clear hS2
                      go_wp2_with fail
                      exact ⟨⟨j + 1, un, N0 ||| dz, by go_num, hlj, HI2, (hS.sub (List.sublist_cons_self _ _)).mono ((KS.out.and stable_set).and (stable_inter stable_set fun z => w0.heap.size ≤ z)) fun D w h => ⟨(kc.out _ _ h.1).1, h.2⟩⟩, by simp [intOf]; omega⟩
                · have HI2 := Lib.hid (HI.out.ruleN HGj.out (.inl rfl))
                  clear hb1 HI
                  go_wp2_with (first
                    | ((with_reducible show wpList _ _ _ (⟨_, .binOp _ _ _ _ _, _, _, _, _⟩ :: _) _ _); (first | (refine st_lss rfl _ _ _ _ rfl _ _ _ rfl rfl (fun h_ => ?_) (fun h_ => ?_)) | (refine st_leq rfl _ _ _ _ rfl _ _ _ rfl rfl (fun h_ => ?_) (fun h_ => ?_)) | (refine st_gtr rfl _ _ _ _ rfl _ _ _ rfl rfl (fun h_ => ?_) (fun h_ => ?_)) | (refine st_geq rfl _ _ _ _ rfl _ _ _ rfl rfl (fun h_ => ?_) (fun h_ => ?_)) | (refine st_eql rfl _ _ _ _ rfl _ _ _ rfl rfl (fun h_ => ?_) (fun h_ => ?_)) | (refine st_neq rfl _ _ _ _ rfl _ _ _ rfl rfl (fun h_ => ?_) (fun h_ => ?_))) <;> go_prune)
                    | ((with_reducible show wpList _ _ _ (⟨some 36, _, _, _, _, _⟩ :: _) _ _); refine BigFrame.wpList_want rfl fun _ hK => opw_mid (cs := [.bool _, .slice Ay my cy, .slice Am mn cm, .int .i64 rt, .int .i64 ro]) rfl rfl (rng5 c0 c1 c2 c3 c4) Tryd.underlying39 rfl (by kernel_rfl) (hK _ _ ?_))
                    | ((with_reducible show wpList _ _ _ (⟨some 8, _, _, _, _, _⟩ :: _) _ _); refine st_allocz hS rfl _ rfl (by kernel_rfl) #[.bool false, .slice none 0 0, .slice none 0 0, .int .i64 0, .int .i64 0] (by kernel_rfl) ?_; clear hS; intro g8 w_ hS; (try simp only [Act.put, Act.eval, List.set_cons_zero, List.set_cons_succ, List.setIfInBounds_toArray, Array.getD_eq_getD_getElem?, List.getElem?_toArray, List.getElem?_cons_succ, List.getElem?_cons_zero, Option.getD_some, Value.cells] at hS))
                    | ((with_reducible show wpList _ _ _ (⟨_, .store _ _ _, _, _, _, _⟩ :: _) _ _); (first | (refine st_store hS 0 rfl _ _ _ rfl _ _ rfl rfl _ _ rfl (by kernel_rfl) (by kernel_rfl) (by kernel_rfl) ?_) | (refine st_store hS 1 rfl _ _ _ rfl _ _ rfl rfl _ _ rfl (by kernel_rfl) (by kernel_rfl) (by kernel_rfl) ?_) | (refine st_store hS 2 rfl _ _ _ rfl _ _ rfl rfl _ _ rfl (by kernel_rfl) (by kernel_rfl) (by kernel_rfl) ?_) | (refine st_store hS 3 rfl _ _ _ rfl _ _ rfl rfl _ _ rfl (by kernel_rfl) (by kernel_rfl) (by kernel_rfl) ?_) | (refine st_cstore hS 0 rfl _ _ _ rfl _ _ _ rfl rfl rfl (by first | (simp; done) | (simp; omega) | exact of_decide_eq_true (by kernel_rfl)) rfl (by first | rfl | assumption) (by kernel_rfl) ?_) | (refine st_cstore hS 1 rfl _ _ _ rfl _ _ _ rfl rfl rfl (by first | (simp; done) | (simp; omega) | exact of_decide_eq_true (by kernel_rfl)) rfl (by first | rfl | assumption) (by kernel_rfl) ?_) | (refine st_cstore hS 2 rfl _ _ _ rfl _ _ _ rfl rfl rfl (by first | (simp; done) | (simp; omega) | exact of_decide_eq_true (by kernel_rfl)) rfl (by first | rfl | assumption) (by kernel_rfl) ?_) | (refine st_cstore hS 3 rfl _ _ _ rfl _ _ _ rfl rfl rfl (by first | (simp; done) | (simp; omega) | exact of_decide_eq_true (by kernel_rfl)) rfl (by first | rfl | assumption) (by kernel_rfl) ?_)); clear hS; intro w_ hS; (try simp only [Act.put, Act.eval, List.set_cons_zero, List.set_cons_succ, List.setIfInBounds_toArray, Array.getD_eq_getD_getElem?, List.getElem?_toArray, List.getElem?_cons_succ, List.getElem?_cons_zero, Option.getD_some, Value.cells] at hS))
                    | ((with_reducible show wpList _ _ _ (⟨_, .load 31 _, _, _, _, _⟩ :: _) _ _); first | (refine st_setl hS 0 rfl _ _ rfl _ _ rfl _ _ rfl _ (by first | rfl | assumption) Tryd.underlying31 rfl (by kernel_rfl) ?_) | (refine st_setl hS 1 rfl _ _ rfl _ _ rfl _ _ rfl _ (by first | rfl | assumption) Tryd.underlying31 rfl (by kernel_rfl) ?_) | (refine st_setl hS 2 rfl _ _ rfl _ _ rfl _ _ rfl _ (by first | rfl | assumption) Tryd.underlying31 rfl (by kernel_rfl) ?_) | (refine st_setl hS 3 rfl _ _ rfl _ _ rfl _ _ rfl _ (by first | rfl | assumption) Tryd.underlying31 rfl (by kernel_rfl) ?_) | (refine st_setl hS 4 rfl _ _ rfl _ _ rfl _ _ rfl _ (by first | rfl | assumption) Tryd.underlying31 rfl (by kernel_rfl) ?_) | (refine st_setl hS 5 rfl _ _ rfl _ _ rfl _ _ rfl _ (by first | rfl | assumption) Tryd.underlying31 rfl (by kernel_rfl) ?_))
                    | ((with_reducible show wpList _ _ _ (⟨_, .load _ _, _, _, _, _⟩ :: _) _ _); first | (refine st_cell hS 0 rfl _ _ rfl _ _ rfl _ _ rfl (by decide +kernel) _ (by first | assumption | rfl) ?_) | (refine st_cell hS 1 rfl _ _ rfl _ _ rfl _ _ rfl (by decide +kernel) _ (by first | assumption | rfl) ?_) | (refine st_cell hS 2 rfl _ _ rfl _ _ rfl _ _ rfl (by decide +kernel) _ (by first | assumption | rfl) ?_) | (refine st_cell hS 3 rfl _ _ rfl _ _ rfl _ _ rfl (by decide +kernel) _ (by first | assumption | rfl) ?_) | (refine st_cell hS 4 rfl _ _ rfl _ _ rfl _ _ rfl (by decide +kernel) _ (by first | assumption | rfl) ?_) | (refine st_cell hS 5 rfl _ _ rfl _ _ rfl _ _ rfl (by decide +kernel) _ (by first | assumption | rfl) ?_) | (refine st_cell hS 6 rfl _ _ rfl _ _ rfl _ _ rfl (by decide +kernel) _ (by first | assumption | rfl) ?_) | (refine st_cell hS 7 rfl _ _ rfl _ _ rfl _ _ rfl (by decide +kernel) _ (by first | assumption | rfl) ?_))
                    | (go_at_call 20; refine (has_any _ N0 rt _ _ (kc.out _ _ hS.ro).2.1).mono ?_; rw [← HB1.out]; rintro r_ w_ ⟨_, rfl, rfl, hb_⟩; replace hS := hS.ext hb_; clear hb_))
                  exact ⟨⟨j + 1, u, N0, by go_num, hlj, HI2, (hS.sub (List.sublist_cons_self _ _)).mono ((KS.out.and stable_set).and (stable_inter stable_set fun z => w0.heap.size ≤ z)) fun D w h => ⟨(kc.out _ _ h).1, (kc.out _ _ h).2.1⟩⟩, by simp [intOf]; omega⟩
              · obtain rfl : rl.length = j := by omega
                go_wp2_with (first | ((with_reducible show wpList _ _ _ (⟨_, .binOp _ _ _ _ _, _, _, _, _⟩ :: _) _ _); (first | (refine st_lss rfl _ _ _ _ rfl _ _ _ rfl rfl (fun h_ => ?_) (fun h_ => ?_)) | (refine st_leq rfl _ _ _ _ rfl _ _ _ rfl rfl (fun h_ => ?_) (fun h_ => ?_)) | (refine st_gtr rfl _ _ _ _ rfl _ _ _ rfl rfl (fun h_ => ?_) (fun h_ => ?_)) | (refine st_geq rfl _ _ _ _ rfl _ _ _ rfl rfl (fun h_ => ?_) (fun h_ => ?_)) | (refine st_eql rfl _ _ _ _ rfl _ _ _ rfl rfl (fun h_ => ?_) (fun h_ => ?_)) | (refine st_neq rfl _ _ _ _ rfl _ _ _ rfl rfl (fun h_ => ?_) (fun h_ => ?_))) <;> go_prune) | ((with_reducible show wpList _ _ _ (⟨_, .load _ _, _, _, _, _⟩ :: _) _ _); first | (refine st_cell hS 0 rfl _ _ rfl _ _ rfl _ _ rfl (by decide +kernel) _ (by first | assumption | rfl) ?_) | (refine st_cell hS 1 rfl _ _ rfl _ _ rfl _ _ rfl (by decide +kernel) _ (by first | assumption | rfl) ?_) | (refine st_cell hS 2 rfl _ _ rfl _ _ rfl _ _ rfl (by decide +kernel) _ (by first | assumption | rfl) ?_) | (refine st_cell hS 3 rfl _ _ rfl _ _ rfl _ _ rfl (by decide +kernel) _ (by first | assumption | rfl) ?_) | (refine st_cell hS 4 rfl _ _ rfl _ _ rfl _ _ rfl (by decide +kernel) _ (by first | assumption | rfl) ?_) | (refine st_cell hS 5 rfl _ _ rfl _ _ rfl _ _ rfl (by decide +kernel) _ (by first | assumption | rfl) ?_) | (refine st_cell hS 6 rfl _ _ rfl _ _ rfl _ _ rfl (by decide +kernel) _ (by first | assumption | rfl) ?_) | (refine st_cell hS 7 rfl _ _ rfl _ _ rfl _ _ rfl (by decide +kernel) _ (by first | assumption | rfl) ?_)))
                go_loopw [56] (fun i wr => ∃ (j : Nat) (u : Value) (N : Nat), i = .int .i64 (j : Nat) ∧ j ≤ nl.length ∧ Hid (Seen L ⟨R, some L, st, rl, nl, gl⟩ B N rl.length j) ∧ St w0 wr [.box g6 31 #[.slice Ab nb cb], .box g3 31 #[u], .box g2 31 #[.slice none 0 0], .box g1 43 #[.int .i64 R, .pointer (some ⟨q, 0, none⟩), .slice Cs ns cs, .slice Ar rl.length cr, .slice An nl.length cn, .slice Ag gl.length cg]] (fun D w => (K D w ∧ IsSet w D (.agg #[.slice Ab nb cb]) B) ∧ IsSet w (fun z => D z ∧ w0.heap.size ≤ z) (.agg #[u]) N)) (fun i _ => nl.length - (intOf i).toNat)
                case atStart => exact ⟨0, u, N0, rfl, by omega, HI, hS⟩
                case round =>
                  clear hS HI
                  obtain ⟨j, u, N0, rfl, hj, HI, hS⟩ := hrel
                  by_cases hlj : j < nl.length
                  · obtain ⟨b, o2, y, n, rfl, _, hb, c0, c1, hy, hn⟩ := (kn _ _ hS.ro.1.1).at_ hlj
                    obtain ⟨Ay, my, cy, rfl⟩ := hy.shape
                    obtain ⟨Am, mn, cm, rfl⟩ := hn.shape
                    have HGj := Lib.hid (getD_at (0, 0) hlj)
                    obtain ⟨KC, kc, hS2⟩ : ∃ KC : (Nat → Prop) → World → Prop, Hid (∀ D w, KC D w → (K D w ∧ IsSet w D (.agg #[.slice Ab nb cb]) B) ∧ IsSet w (fun z => D z ∧ w0.heap.size ≤ z) (.agg #[u]) N0 ∧ IsCube w D (.agg #[.slice Ay my cy, .slice Am mn cm]) (nl.getD j (0, 0))) ∧ St w0 wr [.box g6 31 #[.slice Ab nb cb], .box g3 31 #[u], .box g2 31 #[.slice none 0 0], .box g1 43 #[.int .i64 R, .pointer (some ⟨q, 0, none⟩), .slice Cs ns cs, .slice Ar rl.length cr, .slice (some ⟨b, o2, none⟩) nl.length cn, .slice Ag gl.length cg]] KC := ⟨_, Lib.hid fun D w h => ⟨h.1.1, h.1.2, h.2⟩, hS.add (D := Free _) stable_cube ⟨_, _, rfl, hy, hn⟩ fun _ h _ => h⟩
                    clear hS hy hn
                    have hS := hS2
                    clear hS2
                    generalize nl.getD j (0, 0) = z at *
                    obtain ⟨b1, hb1⟩ : ∃ b, b = (depC L z &&& N0 != 0) := ⟨_, rfl⟩
                    have HB1 := Lib.hid hb1
                    have HDZ : Hid (depM L (z.1 ||| z.2) = depC L z) := Lib.hid rfl
                    cases b1
                    · have HI2 := Lib.hid (HI.out.neverN HGj.out hb1.symm)
                      clear hb1 HI
                      go_wp2_with (first
                        | ((with_reducible show wpList _ _ _ (⟨_, .binOp _ _ _ _ _, _, _, _, _⟩ :: _) _ _); (first | (refine st_lss rfl _ _ _ _ rfl _ _ _ rfl rfl (fun h_ => ?_) (fun h_ => ?_)) | (refine st_leq rfl _ _ _ _ rfl _ _ _ rfl rfl (fun h_ => ?_) (fun h_ => ?_)) | (refine st_gtr rfl _ _ _ _ rfl _ _ _ rfl rfl (fun h_ => ?_) (fun h_ => ?_)) | (refine st_geq rfl _ _ _ _ rfl _ _ _ rfl rfl (fun h_ => ?_) (fun h_ => ?_)) | (refine st_eql rfl _ _ _ _ rfl _ _ _ rfl rfl (fun h_ => ?_) (fun h_ => ?_)) | (refine st_neq rfl _ _ _ _ rfl _ _ _ rfl rfl (fun h_ => ?_) (fun h_ => ?_))) <;> go_prune)
                        | ((with_reducible show wpList _ _ _ (⟨some 59, _, _, _, _, _⟩ :: _) _ _); refine BigFrame.wpList_want rfl fun _ hK => opw_mid (cs := [.slice Ay my cy, .slice Am mn cm]) rfl rfl (rng2 c0 c1) Tryd.underlying33 rfl (by kernel_rfl) (hK _ _ ?_))
                        | ((with_reducible show wpList _ _ _ (⟨some 10, _, _, _, _, _⟩ :: _) _ _); refine st_allocz hS rfl _ rfl (by kernel_rfl) #[.slice none 0 0, .slice none 0 0] (by kernel_rfl) ?_; clear hS; intro g10 w_ hS; (try simp only [Act.put, Act.eval, List.set_cons_zero, List.set_cons_succ, List.setIfInBounds_toArray, Array.getD_eq_getD_getElem?, List.getElem?_toArray, List.getElem?_cons_succ, List.getElem?_cons_zero, Option.getD_some, Value.cells] at hS))
                        | ((with_reducible show wpList _ _ _ (⟨some 11, _, _, _, _, _⟩ :: _) _ _); refine st_allocz hS rfl _ rfl (by kernel_rfl) #[.slice none 0 0] (by kernel_rfl) ?_; clear hS; intro g11 w_ hS; (try simp only [Act.put, Act.eval, List.set_cons_zero, List.set_cons_succ, List.setIfInBounds_toArray, Array.getD_eq_getD_getElem?, List.getElem?_toArray, List.getElem?_cons_succ, List.getElem?_cons_zero, Option.getD_some, Value.cells] at hS))
                        | ((with_reducible show wpList _ _ _ (⟨_, .store _ _ _, _, _, _, _⟩ :: _) _ _); (first | (refine st_store hS 0 rfl _ _ _ rfl _ _ rfl rfl _ _ rfl (by kernel_rfl) (by kernel_rfl) (by kernel_rfl) ?_) | (refine st_store hS 1 rfl _ _ _ rfl _ _ rfl rfl _ _ rfl (by kernel_rfl) (by kernel_rfl) (by kernel_rfl) ?_) | (refine st_store hS 2 rfl _ _ _ rfl _ _ rfl rfl _ _ rfl (by kernel_rfl) (by kernel_rfl) (by kernel_rfl) ?_) | (refine st_store hS 3 rfl _ _ _ rfl _ _ rfl rfl _ _ rfl (by kernel_rfl) (by kernel_rfl) (by kernel_rfl) ?_) | (refine st_cstore hS 0 rfl _ _ _ rfl _ _ _ rfl rfl rfl (by first | (simp; done) | (simp; omega) | exact of_decide_eq_true (by kernel_rfl)) rfl (by first | rfl | assumption) (by kernel_rfl) ?_) | (refine st_cstore hS 1 rfl _ _ _ rfl _ _ _ rfl rfl rfl (by first | (simp; done) | (simp; omega) | exact of_decide_eq_true (by kernel_rfl)) rfl (by first | rfl | assumption) (by kernel_rfl) ?_) | (refine st_cstore hS 2 rfl _ _ _ rfl _ _ _ rfl rfl rfl (by first | (simp; done) | (simp; omega) | exact of_decide_eq_true (by kernel_rfl)) rfl (by first | rfl | assumption) (by kernel_rfl) ?_) | (refine st_cstore hS 3 rfl _ _ _ rfl _ _ _ rfl rfl rfl (by first | (simp; done) | (simp; omega) | exact of_decide_eq_true (by kernel_rfl)) rfl (by first | rfl | assumption) (by kernel_rfl) ?_)); clear hS; intro w_ hS; (try simp only [Act.put, Act.eval, List.set_cons_zero, List.set_cons_succ, List.setIfInBounds_toArray, Array.getD_eq_getD_getElem?, List.getElem?_toArray, List.getElem?_cons_succ, List.getElem?_cons_zero, Option.getD_some, Value.cells] at hS))
                        | ((with_reducible show wpList _ _ _ (⟨some 60, _, _, _, _, _⟩ :: _) _ _); refine BigFrame.wpList_want rfl fun _ hK => opw_row rfl rfl (hS.box 4 rfl) Tryd.underlying43 rfl (by kernel_rfl) (hK _ _ ?_))
                        | ((with_reducible show wpList _ _ _ (⟨_, .load _ _, _, _, _, _⟩ :: _) _ _); first | refine st_load hS 0 rfl _ _ rfl _ rfl _ _ rfl _ Tryd.underlying33 rfl (by kernel_rfl) ?_ | refine st_load hS 1 rfl _ _ rfl _ rfl _ _ rfl _ Tryd.underlying33 rfl (by kernel_rfl) ?_ | refine st_load hS 2 rfl _ _ rfl _ rfl _ _ rfl _ Tryd.underlying33 rfl (by kernel_rfl) ?_ | refine st_load hS 3 rfl _ _ rfl _ rfl _ _ rfl _ Tryd.underlying33 rfl (by kernel_rfl) ?_)
                        | ((with_reducible show wpList _ _ _ (⟨_, .load 31 _, _, _, _, _⟩ :: _) _ _); first | (refine st_setl hS 0 rfl _ _ rfl _ _ rfl _ _ rfl _ (by first | rfl | assumption) Tryd.underlying31 rfl (by kernel_rfl) ?_) | (refine st_setl hS 1 rfl _ _ rfl _ _ rfl _ _ rfl _ (by first | rfl | assumption) Tryd.underlying31 rfl (by kernel_rfl) ?_) | (refine st_setl hS 2 rfl _ _ rfl _ _ rfl _ _ rfl _ (by first | rfl | assumption) Tryd.underlying31 rfl (by kernel_rfl) ?_) | (refine st_setl hS 3 rfl _ _ rfl _ _ rfl _ _ rfl _ (by first | rfl | assumption) Tryd.underlying31 rfl (by kernel_rfl) ?_) | (refine st_setl hS 4 rfl _ _ rfl _ _ rfl _ _ rfl _ (by first | rfl | assumption) Tryd.underlying31 rfl (by kernel_rfl) ?_) | (refine st_setl hS 5 rfl _ _ rfl _ _ rfl _ _ rfl _ (by first | rfl | assumption) Tryd.underlying31 rfl (by kernel_rfl) ?_))
                        | (go_at_call 21; have hsW := hS.size; refine (depends_any (kp _ _ (kc.out _ _ hS.ro).1.1) rfl HH.out (kt _ _ (kc.out _ _ hS.ro).1.1) (kc.out _ _ hS.ro).2.2).mono ?_; rw [HDZ.out]; rintro r_ w_ ⟨_, rfl, h1, hb_⟩; replace hS := hS.ret hb_ stable_set h1; obtain ⟨Ad, cd, ld, rfl, -⟩ := hS.ro.2.parts; clear h1 hb_ hsW)
                        | (go_at_call 22; refine (meets_any _ _ (depC L z) N0 _ _ _ hS.ro.2 (kc.out _ _ hS.ro.1).2.1).mono ?_; rw [← HB1.out]; rintro r_ w_ ⟨_, rfl, rfl, hb_⟩; replace hS := hS.ext hb_; clear hb_)
                        )
                      exact ⟨⟨j + 1, u, N0, by go_num, hlj, HI2, (hS.sub ((List.sublist_cons_self _ _).trans (List.sublist_cons_self _ _))).mono ((KS.out.and stable_set).and (stable_inter stable_set fun z => w0.heap.size ≤ z)) fun D w h => ⟨(kc.out _ _ h.1).1, (kc.out _ _ h.1).2.1⟩⟩, by simp [intOf]; omega⟩
                    · have HI2 := Lib.hid (HI.out.neverY HGj.out hb1.symm)
                      clear hb1 HI
                      go_wp2_with (first
                        | ((with_reducible show wpList _ _ _ (⟨_, .binOp _ _ _ _ _, _, _, _, _⟩ :: _) _ _); (first | (refine st_lss rfl _ _ _ _ rfl _ _ _ rfl rfl (fun h_ => ?_) (fun h_ => ?_)) | (refine st_leq rfl _ _ _ _ rfl _ _ _ rfl rfl (fun h_ => ?_) (fun h_ => ?_)) | (refine st_gtr rfl _ _ _ _ rfl _ _ _ rfl rfl (fun h_ => ?_) (fun h_ => ?_)) | (refine st_geq rfl _ _ _ _ rfl _ _ _ rfl rfl (fun h_ => ?_) (fun h_ => ?_)) | (refine st_eql rfl _ _ _ _ rfl _ _ _ rfl rfl (fun h_ => ?_) (fun h_ => ?_)) | (refine st_neq rfl _ _ _ _ rfl _ _ _ rfl rfl (fun h_ => ?_) (fun h_ => ?_))) <;> go_prune)
                        | ((with_reducible show wpList _ _ _ (⟨some 59, _, _, _, _, _⟩ :: _) _ _); refine BigFrame.wpList_want rfl fun _ hK => opw_mid (cs := [.slice Ay my cy, .slice Am mn cm]) rfl rfl (rng2 c0 c1) Tryd.underlying33 rfl (by kernel_rfl) (hK _ _ ?_))
                        | ((with_reducible show wpList _ _ _ (⟨some 10, _, _, _, _, _⟩ :: _) _ _); refine st_allocz hS rfl _ rfl (by kernel_rfl) #[.slice none 0 0, .slice none 0 0] (by kernel_rfl) ?_; clear hS; intro g10 w_ hS; (try simp only [Act.put, Act.eval, List.set_cons_zero, List.set_cons_succ, List.setIfInBounds_toArray, Array.getD_eq_getD_getElem?, List.getElem?_toArray, List.getElem?_cons_succ, List.getElem?_cons_zero, Option.getD_some, Value.cells] at hS))
                        | ((with_reducible show wpList _ _ _ (⟨some 11, _, _, _, _, _⟩ :: _) _ _); refine st_allocz hS rfl _ rfl (by kernel_rfl) #[.slice none 0 0] (by kernel_rfl) ?_; clear hS; intro g11 w_ hS; (try simp only [Act.put, Act.eval, List.set_cons_zero, List.set_cons_succ, List.setIfInBounds_toArray, Array.getD_eq_getD_getElem?, List.getElem?_toArray, List.getElem?_cons_succ, List.getElem?_cons_zero, Option.getD_some, Value.cells] at hS))
                        | ((with_reducible show wpList _ _ _ (⟨_, .store _ _ _, _, _, _, _⟩ :: _) _ _); (first | (refine st_store hS 0 rfl _ _ _ rfl _ _ rfl rfl _ _ rfl (by kernel_rfl) (by kernel_rfl) (by kernel_rfl) ?_) | (refine st_store hS 1 rfl _ _ _ rfl _ _ rfl rfl _ _ rfl (by kernel_rfl) (by kernel_rfl) (by kernel_rfl) ?_) | (refine st_store hS 2 rfl _ _ _ rfl _ _ rfl rfl _ _ rfl (by kernel_rfl) (by kernel_rfl) (by kernel_rfl) ?_) | (refine st_store hS 3 rfl _ _ _ rfl _ _ rfl rfl _ _ rfl (by kernel_rfl) (by kernel_rfl) (by kernel_rfl) ?_) | (refine st_cstore hS 0 rfl _ _ _ rfl _ _ _ rfl rfl rfl (by first | (simp; done) | (simp; omega) | exact of_decide_eq_true (by kernel_rfl)) rfl (by first | rfl | assumption) (by kernel_rfl) ?_) | (refine st_cstore hS 1 rfl _ _ _ rfl _ _ _ rfl rfl rfl (by first | (simp; done) | (simp; omega) | exact of_decide_eq_true (by kernel_rfl)) rfl (by first | rfl | assumption) (by kernel_rfl) ?_) | (refine st_cstore hS 2 rfl _ _ _ rfl _ _ _ rfl rfl rfl (by first | (simp; done) | (simp; omega) | exact of_decide_eq_true (by kernel_rfl)) rfl (by first | rfl | assumption) (by kernel_rfl) ?_) | (refine st_cstore hS 3 rfl _ _ _ rfl _ _ _ rfl rfl rfl (by first | (simp; done) | (simp; omega) | exact of_decide_eq_true (by kernel_rfl)) rfl (by first | rfl | assumption) (by kernel_rfl) ?_)); clear hS; intro w_ hS; (try simp only [Act.put, Act.eval, List.set_cons_zero, List.set_cons_succ, List.setIfInBounds_toArray, Array.getD_eq_getD_getElem?, List.getElem?_toArray, List.getElem?_cons_succ, List.getElem?_cons_zero, Option.getD_some, Value.cells] at hS))
                        | ((with_reducible show wpList _ _ _ (⟨some 60, _, _, _, _, _⟩ :: _) _ _); refine BigFrame.wpList_want rfl fun _ hK => opw_row rfl rfl (hS.box 4 rfl) Tryd.underlying43 rfl (by kernel_rfl) (hK _ _ ?_))
                        | ((with_reducible show wpList _ _ _ (⟨_, .load _ _, _, _, _, _⟩ :: _) _ _); first | refine st_load hS 0 rfl _ _ rfl _ rfl _ _ rfl _ Tryd.underlying33 rfl (by kernel_rfl) ?_ | refine st_load hS 1 rfl _ _ rfl _ rfl _ _ rfl _ Tryd.underlying33 rfl (by kernel_rfl) ?_ | refine st_load hS 2 rfl _ _ rfl _ rfl _ _ rfl _ Tryd.underlying33 rfl (by kernel_rfl) ?_ | refine st_load hS 3 rfl _ _ rfl _ rfl _ _ rfl _ Tryd.underlying33 rfl (by kernel_rfl) ?_)
                        | ((with_reducible show wpList _ _ _ (⟨_, .load 31 _, _, _, _, _⟩ :: _) _ _); first | (refine st_setl hS 0 rfl _ _ rfl _ _ rfl _ _ rfl _ (by first | rfl | assumption) Tryd.underlying31 rfl (by kernel_rfl) ?_) | (refine st_setl hS 1 rfl _ _ rfl _ _ rfl _ _ rfl _ (by first | rfl | assumption) Tryd.underlying31 rfl (by kernel_rfl) ?_) | (refine st_setl hS 2 rfl _ _ rfl _ _ rfl _ _ rfl _ (by first | rfl | assumption) Tryd.underlying31 rfl (by kernel_rfl) ?_) | (refine st_setl hS 3 rfl _ _ rfl _ _ rfl _ _ rfl _ (by first | rfl | assumption) Tryd.underlying31 rfl (by kernel_rfl) ?_) | (refine st_setl hS 4 rfl _ _ rfl _ _ rfl _ _ rfl _ (by first | rfl | assumption) Tryd.underlying31 rfl (by kernel_rfl) ?_) | (refine st_setl hS 5 rfl _ _ rfl _ _ rfl _ _ rfl _ (by first | rfl | assumption) Tryd.underlying31 rfl (by kernel_rfl) ?_))
                        | (go_at_call 21; have hsW := hS.size; refine (depends_any (kp _ _ (kc.out _ _ hS.ro).1.1) rfl HH.out (kt _ _ (kc.out _ _ hS.ro).1.1) (kc.out _ _ hS.ro).2.2).mono ?_; rw [HDZ.out]; rintro r_ w_ ⟨_, rfl, h1, hb_⟩; replace hS := hS.ret hb_ stable_set h1; obtain ⟨Ad, cd, ld, rfl, -⟩ := hS.ro.2.parts; clear h1 hb_ hsW)
                        | (go_at_call 22; refine (meets_any _ _ (depC L z) N0 _ _ _ hS.ro.2 (kc.out _ _ hS.ro.1).2.1).mono ?_; rw [← HB1.out]; rintro r_ w_ ⟨_, rfl, rfl, hb_⟩; replace hS := hS.ext hb_; clear hb_)
                        | (go_at_call 23; have hsW := hS.size; refine (or_any _ _ N0 (depC L z) _ _ _ (kc.out _ _ hS.ro.1).2.1 hS.ro.2).mono ?_; rintro r_ w_ ⟨_, rfl, h1, hb_⟩; replace hS := hS.ret hb_ (stable_inter stable_set fun z => w0.heap.size ≤ z) (h1.imp fun z hz _ => ⟨hz, Nat.le_trans hsW hz⟩); obtain ⟨Ao, co, lo, rfl, -⟩ := hS.ro.2.parts; clear h1 hb_ hsW))
                      exact ⟨⟨j + 1, _, N0 ||| depC L z, by go_num, hlj, HI2, (hS.sub ((List.sublist_cons_self _ _).trans (List.sublist_cons_self _ _))).mono ((KS.out.and stable_set).and (stable_inter stable_set fun z => w0.heap.size ≤ z)) fun D w h => ⟨(kc.out _ _ h.1.1).1, h.2⟩⟩, by simp [intOf]; omega⟩
                  · obtain rfl : nl.length = j := by omega
                    obtain ⟨b1, hb1⟩ : ∃ b, b = (N0 == B) := ⟨_, rfl⟩
                    have HB1 := Lib.hid hb1
                    obtain ⟨Ao, co, lo, he, -⟩ := hS.ro.2.parts
                    obtain rfl : u = .slice Ao lo.length co := by injection he with he; simpa using he
                    clear he
                    cases b1
                    · have hne : ¬ N0 = B := fun e => by rw [e, beq_self_eq_true] at hb1; cases hb1
                      have HLT := Lib.hid (HI.out.lt hne)
                      have HI2 : Hid (Low L ⟨R, some L, st, rl, nl, gl⟩ N0 ∧ ∀ c ∈ gl, Sub (depC L c) N0) := Lib.hid ⟨HI.out.low, HI.out.goal⟩
                      clear hb1 hne HI
                      go_wp2_with (first
                        | ((with_reducible show wpList _ _ _ (⟨_, .binOp _ _ _ _ _, _, _, _, _⟩ :: _) _ _); (first | (refine st_lss rfl _ _ _ _ rfl _ _ _ rfl rfl (fun h_ => ?_) (fun h_ => ?_)) | (refine st_leq rfl _ _ _ _ rfl _ _ _ rfl rfl (fun h_ => ?_) (fun h_ => ?_)) | (refine st_gtr rfl _ _ _ _ rfl _ _ _ rfl rfl (fun h_ => ?_) (fun h_ => ?_)) | (refine st_geq rfl _ _ _ _ rfl _ _ _ rfl rfl (fun h_ => ?_) (fun h_ => ?_)) | (refine st_eql rfl _ _ _ _ rfl _ _ _ rfl rfl (fun h_ => ?_) (fun h_ => ?_)) | (refine st_neq rfl _ _ _ _ rfl _ _ _ rfl rfl (fun h_ => ?_) (fun h_ => ?_))) <;> go_prune)
                        | ((with_reducible show wpList _ _ _ (⟨_, .load 31 _, _, _, _, _⟩ :: _) _ _); first | (refine st_setl hS 0 rfl _ _ rfl _ _ rfl _ _ rfl _ (by first | rfl | assumption) Tryd.underlying31 rfl (by kernel_rfl) ?_) | (refine st_setl hS 1 rfl _ _ rfl _ _ rfl _ _ rfl _ (by first | rfl | assumption) Tryd.underlying31 rfl (by kernel_rfl) ?_) | (refine st_setl hS 2 rfl _ _ rfl _ _ rfl _ _ rfl _ (by first | rfl | assumption) Tryd.underlying31 rfl (by kernel_rfl) ?_) | (refine st_setl hS 3 rfl _ _ rfl _ _ rfl _ _ rfl _ (by first | rfl | assumption) Tryd.underlying31 rfl (by kernel_rfl) ?_) | (refine st_setl hS 4 rfl _ _ rfl _ _ rfl _ _ rfl _ (by first | rfl | assumption) Tryd.underlying31 rfl (by kernel_rfl) ?_) | (refine st_setl hS 5 rfl _ _ rfl _ _ rfl _ _ rfl _ (by first | rfl | assumption) Tryd.underlying31 rfl (by kernel_rfl) ?_))
                        | (go_at_call 13; refine (equal_any _ _ N0 B _ _ _ hS.ro.2 hS.ro.1.2).mono ?_; rw [← HB1.out]; rintro r_ w_ ⟨_, rfl, rfl, hb_⟩; replace hS := hS.ext hb_; clear hb_))
                      go_roundg (2 ^ 64 - N0)
                      case measure => have := HLT.out; have := HGK.out; omega
                      case rel => exact ⟨_, N0, Nat.le_refl _, HI2, (hS.sub (List.sublist_cons_self _ _)).mono (KS.out.and (stable_inter stable_set fun z => w0.heap.size ≤ z)) fun D w h => ⟨h.1.1, h.2⟩⟩
                    · obtain rfl : N0 = B := by simpa using hb1.symm
                      have HFIN := Lib.hid HI.out.done
                      clear hb1 HI
                      go_wp2_with (first
                        | ((with_reducible show wpList _ _ _ (⟨_, .binOp _ _ _ _ _, _, _, _, _⟩ :: _) _ _); (first | (refine st_lss rfl _ _ _ _ rfl _ _ _ rfl rfl (fun h_ => ?_) (fun h_ => ?_)) | (refine st_leq rfl _ _ _ _ rfl _ _ _ rfl rfl (fun h_ => ?_) (fun h_ => ?_)) | (refine st_gtr rfl _ _ _ _ rfl _ _ _ rfl rfl (fun h_ => ?_) (fun h_ => ?_)) | (refine st_geq rfl _ _ _ _ rfl _ _ _ rfl rfl (fun h_ => ?_) (fun h_ => ?_)) | (refine st_eql rfl _ _ _ _ rfl _ _ _ rfl rfl (fun h_ => ?_) (fun h_ => ?_)) | (refine st_neq rfl _ _ _ _ rfl _ _ _ rfl rfl (fun h_ => ?_) (fun h_ => ?_))) <;> go_prune)
                        | ((with_reducible show wpList _ _ _ (⟨_, .load 31 _, _, _, _, _⟩ :: _) _ _); first | (refine st_setl hS 0 rfl _ _ rfl _ _ rfl _ _ rfl _ (by first | rfl | assumption) Tryd.underlying31 rfl (by kernel_rfl) ?_) | (refine st_setl hS 1 rfl _ _ rfl _ _ rfl _ _ rfl _ (by first | rfl | assumption) Tryd.underlying31 rfl (by kernel_rfl) ?_) | (refine st_setl hS 2 rfl _ _ rfl _ _ rfl _ _ rfl _ (by first | rfl | assumption) Tryd.underlying31 rfl (by kernel_rfl) ?_) | (refine st_setl hS 3 rfl _ _ rfl _ _ rfl _ _ rfl _ (by first | rfl | assumption) Tryd.underlying31 rfl (by kernel_rfl) ?_) | (refine st_setl hS 4 rfl _ _ rfl _ _ rfl _ _ rfl _ (by first | rfl | assumption) Tryd.underlying31 rfl (by kernel_rfl) ?_) | (refine st_setl hS 5 rfl _ _ rfl _ _ rfl _ _ rfl _ (by first | rfl | assumption) Tryd.underlying31 rfl (by kernel_rfl) ?_))
                        | ((with_reducible show wpList _ _ _ (⟨_, .store _ _ _, _, _, _, _⟩ :: _) _ _); (first | (refine st_store hS 0 rfl _ _ _ rfl _ _ rfl rfl _ _ rfl (by kernel_rfl) (by kernel_rfl) (by kernel_rfl) ?_) | (refine st_store hS 1 rfl _ _ _ rfl _ _ rfl rfl _ _ rfl (by kernel_rfl) (by kernel_rfl) (by kernel_rfl) ?_) | (refine st_store hS 2 rfl _ _ _ rfl _ _ rfl rfl _ _ rfl (by kernel_rfl) (by kernel_rfl) (by kernel_rfl) ?_) | (refine st_store hS 3 rfl _ _ _ rfl _ _ rfl rfl _ _ rfl (by kernel_rfl) (by kernel_rfl) (by kernel_rfl) ?_) | (refine st_cstore hS 0 rfl _ _ _ rfl _ _ _ rfl rfl rfl (by first | (simp; done) | (simp; omega) | exact of_decide_eq_true (by kernel_rfl)) rfl (by first | rfl | assumption) (by kernel_rfl) ?_) | (refine st_cstore hS 1 rfl _ _ _ rfl _ _ _ rfl rfl rfl (by first | (simp; done) | (simp; omega) | exact of_decide_eq_true (by kernel_rfl)) rfl (by first | rfl | assumption) (by kernel_rfl) ?_) | (refine st_cstore hS 2 rfl _ _ _ rfl _ _ _ rfl rfl rfl (by first | (simp; done) | (simp; omega) | exact of_decide_eq_true (by kernel_rfl)) rfl (by first | rfl | assumption) (by kernel_rfl) ?_) | (refine st_cstore hS 3 rfl _ _ _ rfl _ _ _ rfl rfl rfl (by first | (simp; done) | (simp; omega) | exact of_decide_eq_true (by kernel_rfl)) rfl (by first | rfl | assumption) (by kernel_rfl) ?_)); clear hS; intro w_ hS; (try simp only [Act.put, Act.eval, List.set_cons_zero, List.set_cons_succ, List.setIfInBounds_toArray, Array.getD_eq_getD_getElem?, List.getElem?_toArray, List.getElem?_cons_succ, List.getElem?_cons_zero, Option.getD_some, Value.cells] at hS))
                        | (go_at_call 13; refine (equal_any _ _ N0 N0 _ _ _ hS.ro.2 hS.ro.1.2).mono ?_; rw [← HB1.out]; rintro r_ w_ ⟨_, rfl, rfl, hb_⟩; replace hS := hS.ext hb_; clear hb_))
                      refine ret_cell Tryd.results12 rfl (hS.box 2 rfl) Tryd.underlying31 rfl (by kernel_rfl) rfl ?_
                      exact Ret.mk (by rw [← HFIN.out]; exact hS.ro.2.imp fun z hz _ => hz.2) hS.below
  · have HRS : Hid (relS ⟨R, lk, st, rl, nl, gl⟩ = 0) := Lib.hid (by unfold relS; rw [if_neg (fun h => h0 (HE.out.trans h))])
    rw [HRS.out]
    go_enter Tryd.func12, Tryd.ntmps12
    go_wp2_with (first
      | ((with_reducible show wpList _ _ _ (⟨some 1, _, _, _, _, _⟩ :: _) _ _); refine st_box hS rfl _ _ rfl (.agg #[.int .i64 R, lp, .slice Cs ns cs, .slice Ar rl.length cr, .slice An nl.length cn, .slice Ag gl.length cg]) _ rfl rfl ?_; clear hS; intro g1 w_ hS; (try simp only [Act.put, Act.eval, List.set_cons_zero, List.set_cons_succ, List.setIfInBounds_toArray, Array.getD_eq_getD_getElem?, List.getElem?_toArray, List.getElem?_cons_succ, List.getElem?_cons_zero, Option.getD_some, Value.cells] at hS))
      | ((with_reducible show wpList _ _ _ (⟨some 2, _, _, _, _, _⟩ :: _) _ _); refine st_allocz hS rfl _ rfl (by kernel_rfl) #[.slice none 0 0] (by kernel_rfl) ?_; clear hS; intro g2 w_ hS; (try simp only [Act.put, Act.eval, List.set_cons_zero, List.set_cons_succ, List.setIfInBounds_toArray, Array.getD_eq_getD_getElem?, List.getElem?_toArray, List.getElem?_cons_succ, List.getElem?_cons_zero, Option.getD_some, Value.cells] at hS))
      | ((with_reducible show wpList _ _ _ (⟨some 3, _, _, _, _, _⟩ :: _) _ _); refine st_allocz hS rfl _ rfl (by kernel_rfl) #[.slice none 0 0] (by kernel_rfl) ?_; clear hS; intro g3 w_ hS; (try simp only [Act.put, Act.eval, List.set_cons_zero, List.set_cons_succ, List.setIfInBounds_toArray, Array.getD_eq_getD_getElem?, List.getElem?_toArray, List.getElem?_cons_succ, List.getElem?_cons_zero, Option.getD_some, Value.cells] at hS))
      | ((with_reducible show wpList _ _ _ (⟨_, .binOp _ _ _ _ _, _, _, _, _⟩ :: _) _ _); (first | (refine st_lss rfl _ _ _ _ rfl _ _ _ rfl rfl (fun h_ => ?_) (fun h_ => ?_)) | (refine st_leq rfl _ _ _ _ rfl _ _ _ rfl rfl (fun h_ => ?_) (fun h_ => ?_)) | (refine st_gtr rfl _ _ _ _ rfl _ _ _ rfl rfl (fun h_ => ?_) (fun h_ => ?_)) | (refine st_geq rfl _ _ _ _ rfl _ _ _ rfl rfl (fun h_ => ?_) (fun h_ => ?_)) | (refine st_eql rfl _ _ _ _ rfl _ _ _ rfl rfl (fun h_ => ?_) (fun h_ => ?_)) | (refine st_neq rfl _ _ _ _ rfl _ _ _ rfl rfl (fun h_ => ?_) (fun h_ => ?_))) <;> go_prune)
      | ((with_reducible show wpList _ _ _ (⟨_, .load _ _, _, _, _, _⟩ :: _) _ _); first | refine st_load hS 0 rfl _ _ rfl _ rfl _ _ rfl _ Tryd.underlying43 rfl (by kernel_rfl) ?_ | refine st_load hS 1 rfl _ _ rfl _ rfl _ _ rfl _ Tryd.underlying43 rfl (by kernel_rfl) ?_ | refine st_load hS 2 rfl _ _ rfl _ rfl _ _ rfl _ Tryd.underlying43 rfl (by kernel_rfl) ?_ | refine st_load hS 3 rfl _ _ rfl _ rfl _ _ rfl _ Tryd.underlying43 rfl (by kernel_rfl) ?_)
      | ((with_reducible show wpList _ _ _ (⟨_, .load 31 _, _, _, _, _⟩ :: _) _ _); first | (refine st_setl hS 0 rfl _ _ rfl _ _ rfl _ _ rfl _ (by first | rfl | assumption) Tryd.underlying31 rfl (by kernel_rfl) ?_) | (refine st_setl hS 1 rfl _ _ rfl _ _ rfl _ _ rfl _ (by first | rfl | assumption) Tryd.underlying31 rfl (by kernel_rfl) ?_) | (refine st_setl hS 2 rfl _ _ rfl _ _ rfl _ _ rfl _ (by first | rfl | assumption) Tryd.underlying31 rfl (by kernel_rfl) ?_) | (refine st_setl hS 3 rfl _ _ rfl _ _ rfl _ _ rfl _ (by first | rfl | assumption) Tryd.underlying31 rfl (by kernel_rfl) ?_) | (refine st_setl hS 4 rfl _ _ rfl _ _ rfl _ _ rfl _ (by first | rfl | assumption) Tryd.underlying31 rfl (by kernel_rfl) ?_) | (refine st_setl hS 5 rfl _ _ rfl _ _ rfl _ _ rfl _ (by first | rfl | assumption) Tryd.underlying31 rfl (by kernel_rfl) ?_))
      | ((with_reducible show wpList _ _ _ (⟨_, .store _ _ _, _, _, _, _⟩ :: _) _ _); (first | (refine st_store hS 0 rfl _ _ _ rfl _ _ rfl rfl _ _ rfl (by kernel_rfl) (by kernel_rfl) (by kernel_rfl) ?_) | (refine st_store hS 1 rfl _ _ _ rfl _ _ rfl rfl _ _ rfl (by kernel_rfl) (by kernel_rfl) (by kernel_rfl) ?_) | (refine st_store hS 2 rfl _ _ _ rfl _ _ rfl rfl _ _ rfl (by kernel_rfl) (by kernel_rfl) (by kernel_rfl) ?_) | (refine st_store hS 3 rfl _ _ _ rfl _ _ rfl rfl _ _ rfl (by kernel_rfl) (by kernel_rfl) (by kernel_rfl) ?_) | (refine st_cstore hS 0 rfl _ _ _ rfl _ _ _ rfl rfl rfl (by first | (simp; done) | (simp; omega) | exact of_decide_eq_true (by kernel_rfl)) rfl (by first | rfl | assumption) (by kernel_rfl) ?_) | (refine st_cstore hS 1 rfl _ _ _ rfl _ _ _ rfl rfl rfl (by first | (simp; done) | (simp; omega) | exact of_decide_eq_true (by kernel_rfl)) rfl (by first | rfl | assumption) (by kernel_rfl) ?_) | (refine st_cstore hS 2 rfl _ _ _ rfl _ _ _ rfl rfl rfl (by first | (simp; done) | (simp; omega) | exact of_decide_eq_true (by kernel_rfl)) rfl (by first | rfl | assumption) (by kernel_rfl) ?_) | (refine st_cstore hS 3 rfl _ _ _ rfl _ _ _ rfl rfl rfl (by first | (simp; done) | (simp; omega) | exact of_decide_eq_true (by kernel_rfl)) rfl (by first | rfl | assumption) (by kernel_rfl) ?_)); clear hS; intro w_ hS; (try simp only [Act.put, Act.eval, List.set_cons_zero, List.set_cons_succ, List.setIfInBounds_toArray, Array.getD_eq_getD_getElem?, List.getElem?_toArray, List.getElem?_cons_succ, List.getElem?_cons_zero, Option.getD_some, Value.cells] at hS))
      | (go_at_call 17; refine (schk_any (kp _ _ hS.ro) HP.out (kt _ _ hS.ro)).mono ?_; rw [← HE.out]; rintro r_ w_ ⟨_, rfl, rfl, hb_⟩; replace hS := hS.ext hb_; clear hb_))
    refine ret_cell Tryd.results12 rfl (hS.box 1 rfl) Tryd.underlying31 rfl (by kernel_rfl) rfl ?_
    exact Ret.mk IsSet.empty hS.below
end Go.Proofs.YtihpgmbinhmmlaaDoor
namespace Go.Proofs.YtihpgmbinhmmlaaDoor
open Go.RowKit
attribute [local go_sem ↓] Go.wp_at_zero Go.wp_at_succ
set_option maxRecDepth 20000
set_option exponentiation.threshold 5000

theorem ty_rules : SliceTy Tryd.prog 40 39 5 72 := ⟨Tryd.underlying40, by kernel_rfl⟩
theorem kclone_any {w0 : World} {D : Nat → Prop} {pv : Value} {n : Nat} {xs : List Value} (h : Sl w0 D 2 pv n xs) (ho : ∀ u ∈ xs, u.oneCell' = true) (hl : n ≤ 1000000) : Calls Tryd.prog 62 #[pv] w0 fun e w' => ∃ v, e = .returned v ∧ St w0 w' [.own v 33 2 n xs] fun _ _ => True := by
  obtain ⟨A, c, rfl, hc1, hc2⟩ := h.shape
  obtain ⟨K, kp, hS⟩ : ∃ K : (Nat → Prop) → World → Prop, (∀ D w, K D w → Sl w D 2 (.slice A n c) n xs) ∧ St w0 w0 [] K := ⟨_, fun _ _ h => h, St.start (stable_sl (by decide)) h⟩
  clear h
  cases A with
  | none =>
    obtain ⟨rfl, rfl⟩ : n = 0 ∧ xs = [] := by
      obtain ⟨h1, A, c2, h2, _, _, h5⟩ := kp _ _ hS.ro
      rcases Nat.eq_zero_or_pos n with h | h
      · subst h; exact ⟨rfl, List.length_eq_zero_iff.1 (by omega)⟩
      · obtain ⟨b, o, h6, _⟩ := h5 h
        injection h2 with h2; rw [← h2] at h6; cases h6
    go_enter Tryd.func62, Tryd.ntmps62
    go_wp2_with (first
      | ((with_reducible show wpList _ _ _ (⟨_, .binOp _ _ _ _ _, _, _, _, _⟩ :: _) _ _); (first | (refine st_lss rfl _ _ _ _ rfl _ _ _ rfl rfl (fun h_ => ?_) (fun h_ => ?_)) | (refine st_leq rfl _ _ _ _ rfl _ _ _ rfl rfl (fun h_ => ?_) (fun h_ => ?_)) | (refine st_gtr rfl _ _ _ _ rfl _ _ _ rfl rfl (fun h_ => ?_) (fun h_ => ?_)) | (refine st_geq rfl _ _ _ _ rfl _ _ _ rfl rfl (fun h_ => ?_) (fun h_ => ?_)) | (refine st_eql rfl _ _ _ _ rfl _ _ _ rfl rfl (fun h_ => ?_) (fun h_ => ?_)) | (refine st_neq rfl _ _ _ _ rfl _ _ _ rfl rfl (fun h_ => ?_) (fun h_ => ?_))) <;> go_prune)
      | ((with_reducible show wpList _ _ _ (⟨some 4, _, _, _, _, _⟩ :: _) _ _); refine BigFrame.wpList_want rfl fun _ hK => opw_bin (vx := .slice none 0 c) (vy := .slice none 0 0) (v := .bool true) rfl rfl rfl rfl (Lib.run_eql_slice_nil _ _ _ _ _ _ _ _ Tryd.underlying41) (hK _ _ ?_)))
    go_ret
    exact ⟨_, rfl, ((hS.nil 33 2)).mono (Stable.pure True) fun _ _ _ => trivial⟩
  | some ad =>
    go_enter Tryd.func62, Tryd.ntmps62
    go_wp2_with (first
      | ((with_reducible show wpList _ _ _ (⟨some 4, _, _, _, _, _⟩ :: _) _ _); refine BigFrame.wpList_want rfl fun _ hK => opw_bin (vx := .slice (some ad) n c) (vy := .slice none 0 0) (v := .bool false) rfl rfl rfl rfl (Lib.run_eql_slice_nil _ _ _ _ _ _ _ _ Tryd.underlying41) (hK _ _ ?_))
      | ((with_reducible show wpList _ _ _ (⟨_, .buildSlice _ 0 _, _, _, _, _⟩ :: _) _ _); refine st_empty hS rfl _ _ rfl Tryd.underlying41 (by kernel_rfl) 2 ?_; clear hS; intro ge w_ hS)
      | ((with_reducible show wpList _ _ _ (⟨some 7, _, _, _, _, _⟩ :: _) _ _); refine st_appf hS 0 rfl _ _ _ rfl ty_cubes _ rfl rfl _ _ _ _ rfl (kp _ _ hS.ro) ho (by omega) (by omega) ?_; clear hS; intro g cap w_ hS))
    go_ret
    exact ⟨_, rfl, hS.mono (Stable.pure True) fun _ _ _ => trivial⟩
theorem rclone_any {w0 : World} {D : Nat → Prop} {pv : Value} {n : Nat} {xs : List Value} (h : Sl w0 D 5 pv n xs) (ho : ∀ u ∈ xs, u.oneCell' = true) (hl : n ≤ 1000000) : Calls Tryd.prog 41 #[pv] w0 fun e w' => ∃ v, e = .returned v ∧ St w0 w' [.own v 39 5 n xs] fun _ _ => True := by
  obtain ⟨A, c, rfl, hc1, hc2⟩ := h.shape
  obtain ⟨K, kp, hS⟩ : ∃ K : (Nat → Prop) → World → Prop, (∀ D w, K D w → Sl w D 5 (.slice A n c) n xs) ∧ St w0 w0 [] K := ⟨_, fun _ _ h => h, St.start (stable_sl (by decide)) h⟩
  clear h
  cases A with
  | none =>
    obtain ⟨rfl, rfl⟩ : n = 0 ∧ xs = [] := by
      obtain ⟨h1, A, c2, h2, _, _, h5⟩ := kp _ _ hS.ro
      rcases Nat.eq_zero_or_pos n with h | h
      · subst h; exact ⟨rfl, List.length_eq_zero_iff.1 (by omega)⟩
      · obtain ⟨b, o, h6, _⟩ := h5 h
        injection h2 with h2; rw [← h2] at h6; cases h6
    go_enter Tryd.func41, Tryd.ntmps41
    go_wp2_with (first
      | ((with_reducible show wpList _ _ _ (⟨_, .binOp _ _ _ _ _, _, _, _, _⟩ :: _) _ _); (first | (refine st_lss rfl _ _ _ _ rfl _ _ _ rfl rfl (fun h_ => ?_) (fun h_ => ?_)) | (refine st_leq rfl _ _ _ _ rfl _ _ _ rfl rfl (fun h_ => ?_) (fun h_ => ?_)) | (refine st_gtr rfl _ _ _ _ rfl _ _ _ rfl rfl (fun h_ => ?_) (fun h_ => ?_)) | (refine st_geq rfl _ _ _ _ rfl _ _ _ rfl rfl (fun h_ => ?_) (fun h_ => ?_)) | (refine st_eql rfl _ _ _ _ rfl _ _ _ rfl rfl (fun h_ => ?_) (fun h_ => ?_)) | (refine st_neq rfl _ _ _ _ rfl _ _ _ rfl rfl (fun h_ => ?_) (fun h_ => ?_))) <;> go_prune)
      | ((with_reducible show wpList _ _ _ (⟨some 4, _, _, _, _, _⟩ :: _) _ _); refine BigFrame.wpList_want rfl fun _ hK => opw_bin (vx := .slice none 0 c) (vy := .slice none 0 0) (v := .bool true) rfl rfl rfl rfl (Lib.run_eql_slice_nil _ _ _ _ _ _ _ _ Tryd.underlying40) (hK _ _ ?_)))
    go_ret
    exact ⟨_, rfl, ((hS.nil 39 5)).mono (Stable.pure True) fun _ _ _ => trivial⟩
  | some ad =>
    go_enter Tryd.func41, Tryd.ntmps41
    go_wp2_with (first
      | ((with_reducible show wpList _ _ _ (⟨some 4, _, _, _, _, _⟩ :: _) _ _); refine BigFrame.wpList_want rfl fun _ hK => opw_bin (vx := .slice (some ad) n c) (vy := .slice none 0 0) (v := .bool false) rfl rfl rfl rfl (Lib.run_eql_slice_nil _ _ _ _ _ _ _ _ Tryd.underlying40) (hK _ _ ?_))
      | ((with_reducible show wpList _ _ _ (⟨_, .buildSlice _ 0 _, _, _, _, _⟩ :: _) _ _); refine st_empty hS rfl _ _ rfl Tryd.underlying40 (by kernel_rfl) 5 ?_; clear hS; intro ge w_ hS)
      | ((with_reducible show wpList _ _ _ (⟨some 7, _, _, _, _, _⟩ :: _) _ _); refine st_appf hS 0 rfl _ _ _ rfl ty_rules _ rfl rfl _ _ _ _ rfl (kp _ _ hS.ro) ho (by omega) (by omega) ?_; clear hS; intro g cap w_ hS))
    go_ret
    exact ⟨_, rfl, hS.mono (Stable.pure True) fun _ _ _ => trivial⟩
theorem copies_any {w0 : World} {D : Nat → Prop} {pv : Value} {n : Nat} {xs : List Value} (h : Sl w0 D 2 pv n xs) (ho : ∀ u ∈ xs, u.oneCell' = true) (hl : n ≤ 1000000) : Calls Tryd.prog 42 #[pv] w0 fun e w' => ∃ v, e = .returned v ∧ St w0 w' [.own v 33 2 n xs] fun _ _ => True := by
  have HC := Lib.hid (kclone_any h ho hl)
  clear h ho
  go_enter Tryd.func42, Tryd.ntmps42
  go_wp2_with (first | (go_at_call 62; refine HC.out.mono ?_; rintro e w_ ⟨v, rfl, hS⟩))
  go_ret
  exact ⟨_, rfl, hS⟩
theorem vs_len5 {vs : List Value} (h : vs.length = 5) : ∃ x0 x1 x2 x3 x4, vs = [x0, x1, x2, x3, x4] := by
  obtain ⟨x, vs', rfl, h'⟩ := vs_cons h
  obtain ⟨y, z, u, t, rfl⟩ := vs_len4 h'
  exact ⟨x, y, z, u, t, rfl⟩
theorem vs_len6 {vs : List Value} (h : vs.length = 6) : ∃ x0 x1 x2 x3 x4 x5, vs = [x0, x1, x2, x3, x4, x5] := by
  obtain ⟨x, vs', rfl, h'⟩ := vs_cons h
  obtain ⟨y, z, u, t, r, rfl⟩ := vs_len5 h'
  exact ⟨x, y, z, u, t, r, rfl⟩
theorem sl_cells {w : World} {D : Nat → Prop} {size n : Nat} {v : Value} {xs : List Value} (h : Sl w D size v n xs) : v.cells = #[v] ∧ v.oneCell' = true := by
  obtain ⟨A, c, rfl, _, _⟩ := h.shape
  exact ⟨rfl, rfl⟩
theorem RuleCells.one {w : World} {D : Nat → Prop} {xs : List Value} {l : List RuleD} (hl : xs.length = l.length * 5) (h : RuleCells w D xs l) : ∀ u ∈ xs, u.oneCell' = true := fun u hu => by
  obtain ⟨i, hi, rfl⟩ := List.getElem_of_mem hu
  have hk : i / 5 < l.length := by omega
  obtain ⟨a, b, q0, q1, q2, q3, q4, q5, q6⟩ := h (i / 5) l[i / 5] (by rw [List.getElem?_eq_getElem hk])
  obtain ⟨A, m, c, e3⟩ := q5.shape
  obtain ⟨B, k, d, e4⟩ := q6.shape
  have key : ∀ {j : Nat} {v : Value}, xs[i / 5 * 5 + j]? = some v → i = i / 5 * 5 + j → v.oneCell' = true → xs[i].oneCell' = true := fun {j v} q e hv => by
    rw [← e, List.getElem?_eq_getElem hi] at q
    injection q with q
    rw [q]; exact hv
  have h5 : i % 5 < 5 := Nat.mod_lt _ (by decide)
  have hd := Nat.div_add_mod i 5
  match hm : i % 5, h5 with
  | 0, _ => exact key (j := 0) q0 (by omega) rfl
  | 1, _ => exact key (j := 1) q1 (by omega) (by rw [e3]; rfl)
  | 2, _ => exact key (j := 2) q2 (by omega) (by rw [e4]; rfl)
  | 3, _ => exact key (j := 3) q3 (by omega) rfl
  | 4, _ => exact key (j := 4) q4 (by omega) rfl
set_option maxHeartbeats 1000000 in
theorem copy_any {w0 w : World} {F : List Fact} {K : (Nat → Prop) → World → Prop} {v : Value} {p : ProbD} (hP : p.Ok) (hS : St w0 w F K) (kp : ∀ D w, K D w → IsProb w D v p) :
    Calls Tryd.prog 18 #[v] w fun e w' => ∃ u, e = .returned u ∧ St w0 w' F fun D w => K D w ∧ IsProb w D u p := by
  obtain ⟨R, lk, st, rl, nl, gl⟩ := p
  obtain ⟨lp, s, rv, nv, gv, rfl, hh, hs, hr, hn, hg⟩ := kp _ _ hS.ro
  dsimp only at hh hs hr hn hg
  obtain ⟨hP1, hP2, hP3, -⟩ := hP
  dsimp only at hP1 hP2 hP3
  have KS := Lib.hid hS.stable
  obtain ⟨la, rfl⟩ : ∃ la, lp = .pointer la := by
    cases lk with
    | none => exact ⟨none, hh⟩
    | some L => obtain ⟨q, o, rfl, -⟩ := hh; exact ⟨_, rfl⟩
  obtain ⟨Cs, ns, cs, rfl⟩ := hs.shape
  obtain ⟨Ar, cr, rfl, _, _⟩ := hr.shape
  obtain ⟨An, cn, rfl, _, _⟩ := hn.shape
  obtain ⟨Ag, cg, rfl, _, _⟩ := hg.shape
  obtain ⟨xr, hr1, hr2⟩ := hr
  obtain ⟨xn, hn1, hn2⟩ := hn
  obtain ⟨xg, hg1, hg2⟩ := hg
  have OR : Hid (∀ u ∈ xr, u.oneCell' = true) := Lib.hid (hr2.one hr1.1)
  have ON : Hid (∀ u ∈ xn, u.oneCell' = true) := Lib.hid (CubeCells.one hn1.1 hn2)
  have OG : Hid (∀ u ∈ xg, u.oneCell' = true) := Lib.hid (CubeCells.one hg1.1 hg2)
  obtain ⟨K1, k0, kh, ks, kr, kn, kg, kr2, kn2, kg2, hS2⟩ : ∃ K1 : (Nat → Prop) → World → Prop, (∀ D w, K1 D w → K D w) ∧ (∀ D w, K1 D w → IsHo w D (.pointer la) lk) ∧ (∀ D w, K1 D w → IsSet w D (.agg #[.slice Cs ns cs]) st) ∧ (∀ D w, K1 D w → Sl w D 5 (.slice Ar rl.length cr) rl.length xr) ∧ (∀ D w, K1 D w → Sl w D 2 (.slice An nl.length cn) nl.length xn) ∧ (∀ D w, K1 D w → Sl w D 2 (.slice Ag gl.length cg) gl.length xg) ∧ (∀ D w, K1 D w → RuleCells w D xr rl) ∧ (∀ D w, K1 D w → CubeCells w D xn nl) ∧ (∀ D w, K1 D w → CubeCells w D xg gl) ∧ St w0 w F K1 :=
    ⟨_, fun _ _ h => h.1, fun _ _ h => h.2.1.1, fun _ _ h => h.2.1.2, fun _ _ h => h.2.2.1.1, fun _ _ h => h.2.2.2.1.1, fun _ _ h => h.2.2.2.2.1, fun _ _ h => h.2.2.1.2, fun _ _ h => h.2.2.2.1.2, fun _ _ h => h.2.2.2.2.2, hS.add (D := Free F) ((stable_ho.and stable_set).and (((stable_sl (by decide)).and stable_rcells).and (((stable_sl (by decide)).and stable_cc).and ((stable_sl (by decide)).and stable_cc)))) ⟨⟨hh, hs⟩, ⟨hr1, hr2⟩, ⟨hn1, hn2⟩, hg1, hg2⟩ fun _ h _ => h⟩
  clear hS hh hs hr1 hr2 hn1 hn2 hg1 hg2 kp
  have hS := hS2
  clear hS2
  have KS1 := Lib.hid hS.stable
  go_enter Tryd.func18, Tryd.ntmps18
  go_wp2_with (first
    | ((with_reducible show wpList _ _ _ (⟨some 1, _, _, _, _, _⟩ :: _) _ _); refine st_box hS rfl _ _ rfl (.agg #[.int .i64 R, .pointer la, .slice Cs ns cs, .slice Ar rl.length cr, .slice An nl.length cn, .slice Ag gl.length cg]) _ rfl rfl ?_; clear hS; intro g1 w_ hS; (try simp only [Act.put, Act.eval, List.set_cons_zero, List.set_cons_succ, List.setIfInBounds_toArray, Array.getD_eq_getD_getElem?, List.getElem?_toArray, List.getElem?_cons_succ, List.getElem?_cons_zero, Option.getD_some, Value.cells] at hS))
    | ((with_reducible show wpList _ _ _ (⟨some 2, _, _, _, _, _⟩ :: _) _ _); refine st_allocz hS rfl _ rfl (by kernel_rfl) #[.int .i64 0, .pointer none, .slice none 0 0, .slice none 0 0, .slice none 0 0, .slice none 0 0] (by kernel_rfl) ?_; clear hS; intro g2 w_ hS; (try simp only [Act.put, Act.eval, List.set_cons_zero, List.set_cons_succ, List.setIfInBounds_toArray, Array.getD_eq_getD_getElem?, List.getElem?_toArray, List.getElem?_cons_succ, List.getElem?_cons_zero, Option.getD_some, Value.cells] at hS)))
  have h0d : St w0 w_.drew (.box g2 43 #[.int .i64 0, .pointer none, .slice none 0 0, .slice none 0 0, .slice none 0 0, .slice none 0 0] :: .box g1 43 #[.int .i64 R, .pointer la, .slice Cs ns cs, .slice Ar rl.length cr, .slice An nl.length cn, .slice Ag gl.length cg] :: F) K1 := hS.drew
  clear hS
  refine wp_region_seq [2, 5, 8, 10, 12, 14] (fun i__ v => match i__ with
    | 0 => v = .pointer (some ⟨g1, 3, none⟩)
    | 1 => v = .slice Ar rl.length cr
    | 2 => True
    | 3 => v = .pointer (some ⟨g1, 4, none⟩)
    | 4 => v = .slice An nl.length cn
    | 5 => True
    | 6 => v = .pointer (some ⟨g1, 5, none⟩)
    | 7 => v = .slice Ag gl.length cg
    | 8 => True
    | 9 => v = .pointer (some ⟨g1, 3, none⟩)
    | 10 => True
    | 11 => v = .pointer (some ⟨g1, 4, none⟩)
    | 12 => True
    | 13 => v = .pointer (some ⟨g1, 5, none⟩)
    | 14 => True
    | _ => True) (fun vs w => match vs with | [] => St w0 w (.box g2 43 #[.int .i64 0, .pointer none, .slice none 0 0, .slice none 0 0, .slice none 0 0, .slice none 0 0] :: .box g1 43 #[.int .i64 R, .pointer la, .slice Cs ns cs, .slice Ar rl.length cr, .slice An nl.length cn, .slice Ag gl.length cg] :: F) K1 | [a] => St w0 w (.box g2 43 #[.int .i64 0, .pointer none, .slice none 0 0, .slice none 0 0, .slice none 0 0, .slice none 0 0] :: .box g1 43 #[.int .i64 R, .pointer la, .slice Cs ns cs, .slice Ar rl.length cr, .slice An nl.length cn, .slice Ag gl.length cg] :: F) (fun D w => K1 D w ∧ Sl w D 5 a rl.length xr) | [a, b] => St w0 w (.box g2 43 #[.int .i64 0, .pointer none, .slice none 0 0, .slice none 0 0, .slice none 0 0, .slice none 0 0] :: .box g1 43 #[.int .i64 R, .pointer la, .slice Cs ns cs, .slice Ar rl.length cr, .slice An nl.length cn, .slice Ag gl.length cg] :: F) (fun D w => (K1 D w ∧ Sl w D 5 a rl.length xr) ∧ Sl w D 2 b nl.length xn) | [a, b, c] => St w0 w (.box g2 43 #[.int .i64 0, .pointer none, .slice none 0 0, .slice none 0 0, .slice none 0 0, .slice none 0 0] :: .box g1 43 #[.int .i64 R, .pointer la, .slice Cs ns cs, .slice Ar rl.length cr, .slice An nl.length cn, .slice Ag gl.length cg] :: F) (fun D w => ((K1 D w ∧ Sl w D 5 a rl.length xr) ∧ Sl w D 2 b nl.length xn) ∧ Sl w D 2 c gl.length xg) | [a, b, c, _] => St w0 w (.box g2 43 #[.int .i64 0, .pointer none, .slice none 0 0, .slice none 0 0, .slice none 0 0, .slice none 0 0] :: .box g1 43 #[.int .i64 R, .pointer la, .slice Cs ns cs, a, .slice An nl.length cn, .slice Ag gl.length cg] :: F) (fun D w => ((K1 D w ∧ Sl w D 5 a rl.length xr) ∧ Sl w D 2 b nl.length xn) ∧ Sl w D 2 c gl.length xg) | [a, b, c, _, _] => St w0 w (.box g2 43 #[.int .i64 0, .pointer none, .slice none 0 0, .slice none 0 0, .slice none 0 0, .slice none 0 0] :: .box g1 43 #[.int .i64 R, .pointer la, .slice Cs ns cs, a, b, .slice Ag gl.length cg] :: F) (fun D w => ((K1 D w ∧ Sl w D 5 a rl.length xr) ∧ Sl w D 2 b nl.length xn) ∧ Sl w D 2 c gl.length xg) | [a, b, c, _, _, _] => St w0 w (.box g2 43 #[.int .i64 0, .pointer none, .slice none 0 0, .slice none 0 0, .slice none 0 0, .slice none 0 0] :: .box g1 43 #[.int .i64 R, .pointer la, .slice Cs ns cs, a, b, c] :: F) (fun D w => ((K1 D w ∧ Sl w D 5 a rl.length xr) ∧ Sl w D 2 b nl.length xn) ∧ Sl w D 2 c gl.length xg) | _ => False) (by kernel_rfl) (by kernel_rfl) (by decide) (by kernel_rfl) (by kernel_rfl) ?start ⟨?r0, ?r1, ?r2, ?r3, ?r4, ?r5, ?r6, ?r7, ?r8, ?r9, ?r10, ?r11, ?r12, ?r13, ?r14, trivial⟩ ?post
  case start => first | assumption | (dsimp only; assumption)
  case r0 =>
    refine qread rfl fun b__ w vs hS hcov hold hpre heff => ?_
    refine ⟨fun hwant K hK => ?_, fun hwant => ?_⟩
    · clear hwant
      have e1 : b__.eval (.tmp 1) = .pointer (some ⟨g1, 0, none⟩) := (hold 1 (by kernel_rfl)).trans rfl
      exact opw_faddr rfl e1 (by kernel_rfl) (hK _ rfl)
    · rw [want_none rfl] at hwant; cases hwant
  case r1 =>
    refine qread rfl fun b__ w vs hS hcov hold hpre heff => ?_
    have hl1 : vs.length ≤ 0 := hcov 0 2 _ rfl rfl (by kernel_rfl)
    refine ⟨fun hwant K hK => ?_, fun hwant => ?_⟩
    · clear hwant
      have hl0 : 0 ≤ vs.length ∧ vs.length ≤ 0 := ⟨by omega, by omega⟩
      rcases (by omega : vs.length = 0) with hl
      · obtain rfl := vs_len0 hl
        have e3 : b__.eval (.tmp 3) = .pointer (some ⟨g1, 3, none⟩) := hpre ⟨0, _⟩ (Array.mem_of_getElem? (i := 0) rfl) rfl _ _ rfl rfl rfl
        first | exact opw_cell rfl e3 (by kernel_rfl) ((show St w0 w (.box g2 43 #[.int .i64 0, .pointer none, .slice none 0 0, .slice none 0 0, .slice none 0 0, .slice none 0 0] :: .box g1 43 #[.int .i64 R, .pointer la, .slice Cs ns cs, .slice Ar rl.length cr, .slice An nl.length cn, .slice Ag gl.length cg] :: F) K1 from hS).shut 1 rfl 3 rfl) (hK _ rfl)
    · rw [want_none rfl] at hwant; cases hwant
  case r2 =>
    refine qturn 0 rfl (by decide) fun b__ w vs hS hl hold hpre heff => ?_
    obtain rfl := vs_len0 hl
    refine ⟨fun hwant K hK => ?_, fun hwant => ?_⟩
    · clear hwant
      have e4 : b__.eval (.tmp 4) = .slice Ar rl.length cr := hpre ⟨1, _⟩ (Array.mem_of_getElem? (i := 0) rfl) rfl _ _ rfl rfl rfl
      have h3 : St w0 w (.box g2 43 #[.int .i64 0, .pointer none, .slice none 0 0, .slice none 0 0, .slice none 0 0, .slice none 0 0] :: .box g1 43 #[.int .i64 R, .pointer la, .slice Cs ns cs, .slice Ar rl.length cr, .slice An nl.length cn, .slice Ag gl.length cg] :: F) K1 := hS
      exact opw_callw rfl (by kernel_rfl) (by simp only [List.map_cons, List.map_nil, e4]) (rclone_any (kr _ _ h3.ro) OR.out (by omega)) fun e w' ⟨v, he, hs⟩ => ⟨v, he, hK v w' ((h3.new hs.below (.own v 39 5 rl.length xr) (hs.own 0 rfl)).freeze 0 (by decide) rfl)⟩
    · rw [want_none rfl] at hwant; cases hwant
  case r3 =>
    refine qread rfl fun b__ w vs hS hcov hold hpre heff => ?_
    refine ⟨fun hwant K hK => ?_, fun hwant => ?_⟩
    · clear hwant
      have e1 : b__.eval (.tmp 1) = .pointer (some ⟨g1, 0, none⟩) := (hold 1 (by kernel_rfl)).trans rfl
      exact opw_faddr rfl e1 (by kernel_rfl) (hK _ rfl)
    · rw [want_none rfl] at hwant; cases hwant
  case r4 =>
    refine qread rfl fun b__ w vs hS hcov hold hpre heff => ?_
    have hl1 : vs.length ≤ 1 := hcov 1 5 _ rfl rfl (by kernel_rfl)
    refine ⟨fun hwant K hK => ?_, fun hwant => ?_⟩
    · clear hwant
      have hl0 : 0 ≤ vs.length ∧ vs.length ≤ 1 := ⟨by omega, by omega⟩
      rcases (by omega : vs.length = 0 ∨ vs.length = 1) with hl | hl
      · obtain rfl := vs_len0 hl
        have e6 : b__.eval (.tmp 6) = .pointer (some ⟨g1, 4, none⟩) := hpre ⟨3, _⟩ (Array.mem_of_getElem? (i := 0) rfl) rfl _ _ rfl rfl rfl
        first | exact opw_cell rfl e6 (by kernel_rfl) ((show St w0 w (.box g2 43 #[.int .i64 0, .pointer none, .slice none 0 0, .slice none 0 0, .slice none 0 0, .slice none 0 0] :: .box g1 43 #[.int .i64 R, .pointer la, .slice Cs ns cs, .slice Ar rl.length cr, .slice An nl.length cn, .slice Ag gl.length cg] :: F) K1 from hS).shut 1 rfl 4 rfl) (hK _ rfl) | exact opw_cell rfl e6 (by kernel_rfl) ((show St w0 w (.box g2 43 #[.int .i64 0, .pointer none, .slice none 0 0, .slice none 0 0, .slice none 0 0, .slice none 0 0] :: .box g1 43 #[.int .i64 R, .pointer la, .slice Cs ns cs, .slice Ar rl.length cr, .slice An nl.length cn, .slice Ag gl.length cg] :: F) (fun D w => K1 D w ∧ Sl w D 5 x0 rl.length xr) from hS).shut 1 rfl 4 rfl) (hK _ rfl)
      · obtain ⟨x0, rfl⟩ := vs_len1 hl
        have e6 : b__.eval (.tmp 6) = .pointer (some ⟨g1, 4, none⟩) := hpre ⟨3, _⟩ (Array.mem_of_getElem? (i := 0) rfl) rfl _ _ rfl rfl rfl
        first | exact opw_cell rfl e6 (by kernel_rfl) ((show St w0 w (.box g2 43 #[.int .i64 0, .pointer none, .slice none 0 0, .slice none 0 0, .slice none 0 0, .slice none 0 0] :: .box g1 43 #[.int .i64 R, .pointer la, .slice Cs ns cs, .slice Ar rl.length cr, .slice An nl.length cn, .slice Ag gl.length cg] :: F) K1 from hS).shut 1 rfl 4 rfl) (hK _ rfl) | exact opw_cell rfl e6 (by kernel_rfl) ((show St w0 w (.box g2 43 #[.int .i64 0, .pointer none, .slice none 0 0, .slice none 0 0, .slice none 0 0, .slice none 0 0] :: .box g1 43 #[.int .i64 R, .pointer la, .slice Cs ns cs, .slice Ar rl.length cr, .slice An nl.length cn, .slice Ag gl.length cg] :: F) (fun D w => K1 D w ∧ Sl w D 5 x0 rl.length xr) from hS).shut 1 rfl 4 rfl) (hK _ rfl)
    · rw [want_none rfl] at hwant; cases hwant
  case r5 =>
    refine qturn 1 rfl (by decide) fun b__ w vs hS hl hold hpre heff => ?_
    obtain ⟨x0, rfl⟩ := vs_len1 hl
    refine ⟨fun hwant K hK => ?_, fun hwant => ?_⟩
    · clear hwant
      have e7 : b__.eval (.tmp 7) = .slice An nl.length cn := hpre ⟨4, _⟩ (Array.mem_of_getElem? (i := 0) rfl) rfl _ _ rfl rfl rfl
      have h3 : St w0 w (.box g2 43 #[.int .i64 0, .pointer none, .slice none 0 0, .slice none 0 0, .slice none 0 0, .slice none 0 0] :: .box g1 43 #[.int .i64 R, .pointer la, .slice Cs ns cs, .slice Ar rl.length cr, .slice An nl.length cn, .slice Ag gl.length cg] :: F) (fun D w => K1 D w ∧ Sl w D 5 x0 rl.length xr) := hS
      exact opw_callw rfl (by kernel_rfl) (by simp only [List.map_cons, List.map_nil, e7]) (copies_any (kn _ _ h3.ro.1) ON.out (by omega)) fun e w' ⟨v, he, hs⟩ => ⟨v, he, hK v w' ((h3.new hs.below (.own v 33 2 nl.length xn) (hs.own 0 rfl)).freeze 0 (by decide) rfl)⟩
    · rw [want_none rfl] at hwant; cases hwant
  case r6 =>
    refine qread rfl fun b__ w vs hS hcov hold hpre heff => ?_
    refine ⟨fun hwant K hK => ?_, fun hwant => ?_⟩
    · clear hwant
      have e1 : b__.eval (.tmp 1) = .pointer (some ⟨g1, 0, none⟩) := (hold 1 (by kernel_rfl)).trans rfl
      exact opw_faddr rfl e1 (by kernel_rfl) (hK _ rfl)
    · rw [want_none rfl] at hwant; cases hwant
  case r7 =>
    refine qread rfl fun b__ w vs hS hcov hold hpre heff => ?_
    have hl1 : vs.length ≤ 2 := hcov 2 8 _ rfl rfl (by kernel_rfl)
    refine ⟨fun hwant K hK => ?_, fun hwant => ?_⟩
    · clear hwant
      have hl0 : 0 ≤ vs.length ∧ vs.length ≤ 2 := ⟨by omega, by omega⟩
      rcases (by omega : vs.length = 0 ∨ vs.length = 1 ∨ vs.length = 2) with hl | hl | hl
      · obtain rfl := vs_len0 hl
        have e9 : b__.eval (.tmp 9) = .pointer (some ⟨g1, 5, none⟩) := hpre ⟨6, _⟩ (Array.mem_of_getElem? (i := 0) rfl) rfl _ _ rfl rfl rfl
        first | exact opw_cell rfl e9 (by kernel_rfl) ((show St w0 w (.box g2 43 #[.int .i64 0, .pointer none, .slice none 0 0, .slice none 0 0, .slice none 0 0, .slice none 0 0] :: .box g1 43 #[.int .i64 R, .pointer la, .slice Cs ns cs, .slice Ar rl.length cr, .slice An nl.length cn, .slice Ag gl.length cg] :: F) K1 from hS).shut 1 rfl 5 rfl) (hK _ rfl) | exact opw_cell rfl e9 (by kernel_rfl) ((show St w0 w (.box g2 43 #[.int .i64 0, .pointer none, .slice none 0 0, .slice none 0 0, .slice none 0 0, .slice none 0 0] :: .box g1 43 #[.int .i64 R, .pointer la, .slice Cs ns cs, .slice Ar rl.length cr, .slice An nl.length cn, .slice Ag gl.length cg] :: F) (fun D w => K1 D w ∧ Sl w D 5 x0 rl.length xr) from hS).shut 1 rfl 5 rfl) (hK _ rfl) | exact opw_cell rfl e9 (by kernel_rfl) ((show St w0 w (.box g2 43 #[.int .i64 0, .pointer none, .slice none 0 0, .slice none 0 0, .slice none 0 0, .slice none 0 0] :: .box g1 43 #[.int .i64 R, .pointer la, .slice Cs ns cs, .slice Ar rl.length cr, .slice An nl.length cn, .slice Ag gl.length cg] :: F) (fun D w => (K1 D w ∧ Sl w D 5 x0 rl.length xr) ∧ Sl w D 2 x1 nl.length xn) from hS).shut 1 rfl 5 rfl) (hK _ rfl)
      · obtain ⟨x0, rfl⟩ := vs_len1 hl
        have e9 : b__.eval (.tmp 9) = .pointer (some ⟨g1, 5, none⟩) := hpre ⟨6, _⟩ (Array.mem_of_getElem? (i := 0) rfl) rfl _ _ rfl rfl rfl
        first | exact opw_cell rfl e9 (by kernel_rfl) ((show St w0 w (.box g2 43 #[.int .i64 0, .pointer none, .slice none 0 0, .slice none 0 0, .slice none 0 0, .slice none 0 0] :: .box g1 43 #[.int .i64 R, .pointer la, .slice Cs ns cs, .slice Ar rl.length cr, .slice An nl.length cn, .slice Ag gl.length cg] :: F) K1 from hS).shut 1 rfl 5 rfl) (hK _ rfl) | exact opw_cell rfl e9 (by kernel_rfl) ((show St w0 w (.box g2 43 #[.int .i64 0, .pointer none, .slice none 0 0, .slice none 0 0, .slice none 0 0, .slice none 0 0] :: .box g1 43 #[.int .i64 R, .pointer la, .slice Cs ns cs, .slice Ar rl.length cr, .slice An nl.length cn, .slice Ag gl.length cg] :: F) (fun D w => K1 D w ∧ Sl w D 5 x0 rl.length xr) from hS).shut 1 rfl 5 rfl) (hK _ rfl) | exact opw_cell rfl e9 (by kernel_rfl) ((show St w0 w (.box g2 43 #[.int .i64 0, .pointer none, .slice none 0 0, .slice none 0 0, .slice none 0 0, .slice none 0 0] :: .box g1 43 #[.int .i64 R, .pointer la, .slice Cs ns cs, .slice Ar rl.length cr, .slice An nl.length cn, .slice Ag gl.length cg] :: F) (fun D w => (K1 D w ∧ Sl w D 5 x0 rl.length xr) ∧ Sl w D 2 x1 nl.length xn) from hS).shut 1 rfl 5 rfl) (hK _ rfl)
      · obtain ⟨x0, x1, rfl⟩ := vs_len2 hl
        have e9 : b__.eval (.tmp 9) = .pointer (some ⟨g1, 5, none⟩) := hpre ⟨6, _⟩ (Array.mem_of_getElem? (i := 0) rfl) rfl _ _ rfl rfl rfl
        first | exact opw_cell rfl e9 (by kernel_rfl) ((show St w0 w (.box g2 43 #[.int .i64 0, .pointer none, .slice none 0 0, .slice none 0 0, .slice none 0 0, .slice none 0 0] :: .box g1 43 #[.int .i64 R, .pointer la, .slice Cs ns cs, .slice Ar rl.length cr, .slice An nl.length cn, .slice Ag gl.length cg] :: F) K1 from hS).shut 1 rfl 5 rfl) (hK _ rfl) | exact opw_cell rfl e9 (by kernel_rfl) ((show St w0 w (.box g2 43 #[.int .i64 0, .pointer none, .slice none 0 0, .slice none 0 0, .slice none 0 0, .slice none 0 0] :: .box g1 43 #[.int .i64 R, .pointer la, .slice Cs ns cs, .slice Ar rl.length cr, .slice An nl.length cn, .slice Ag gl.length cg] :: F) (fun D w => K1 D w ∧ Sl w D 5 x0 rl.length xr) from hS).shut 1 rfl 5 rfl) (hK _ rfl) | exact opw_cell rfl e9 (by kernel_rfl) ((show St w0 w (.box g2 43 #[.int .i64 0, .pointer none, .slice none 0 0, .slice none 0 0, .slice none 0 0, .slice none 0 0] :: .box g1 43 #[.int .i64 R, .pointer la, .slice Cs ns cs, .slice Ar rl.length cr, .slice An nl.length cn, .slice Ag gl.length cg] :: F) (fun D w => (K1 D w ∧ Sl w D 5 x0 rl.length xr) ∧ Sl w D 2 x1 nl.length xn) from hS).shut 1 rfl 5 rfl) (hK _ rfl)
    · rw [want_none rfl] at hwant; cases hwant
  case r8 =>
    refine qturn 2 rfl (by decide) fun b__ w vs hS hl hold hpre heff => ?_
    obtain ⟨x0, x1, rfl⟩ := vs_len2 hl
    refine ⟨fun hwant K hK => ?_, fun hwant => ?_⟩
    · clear hwant
      have e10 : b__.eval (.tmp 10) = .slice Ag gl.length cg := hpre ⟨7, _⟩ (Array.mem_of_getElem? (i := 0) rfl) rfl _ _ rfl rfl rfl
      have h3 : St w0 w (.box g2 43 #[.int .i64 0, .pointer none, .slice none 0 0, .slice none 0 0, .slice none 0 0, .slice none 0 0] :: .box g1 43 #[.int .i64 R, .pointer la, .slice Cs ns cs, .slice Ar rl.length cr, .slice An nl.length cn, .slice Ag gl.length cg] :: F) (fun D w => (K1 D w ∧ Sl w D 5 x0 rl.length xr) ∧ Sl w D 2 x1 nl.length xn) := hS
      exact opw_callw rfl (by kernel_rfl) (by simp only [List.map_cons, List.map_nil, e10]) (copies_any (kg _ _ h3.ro.1.1) OG.out (by omega)) fun e w' ⟨v, he, hs⟩ => ⟨v, he, hK v w' ((h3.new hs.below (.own v 33 2 gl.length xg) (hs.own 0 rfl)).freeze 0 (by decide) rfl)⟩
    · rw [want_none rfl] at hwant; cases hwant
  case r9 =>
    refine qread rfl fun b__ w vs hS hcov hold hpre heff => ?_
    refine ⟨fun hwant K hK => ?_, fun hwant => ?_⟩
    · clear hwant
      have e1 : b__.eval (.tmp 1) = .pointer (some ⟨g1, 0, none⟩) := (hold 1 (by kernel_rfl)).trans rfl
      exact opw_faddr rfl e1 (by kernel_rfl) (hK _ rfl)
    · rw [want_none rfl] at hwant; cases hwant
  case r10 =>
    refine qturn 3 rfl (by decide) fun b__ w vs hS hl hold hpre heff => ?_
    obtain ⟨x0, x1, x2, rfl⟩ := vs_len3 hl
    refine ⟨fun hwant K hK => ?_, fun hwant => ?_⟩
    · clear hwant
      have e12 : b__.eval (.tmp 12) = .pointer (some ⟨g1, 3, none⟩) := hpre ⟨9, _⟩ (Array.mem_of_getElem? (i := 0) rfl) rfl _ _ rfl rfl rfl
      have e5 : b__.eval (.tmp 5) = x0 := (heff ⟨2, _⟩ (Array.mem_of_getElem? (i := 1) rfl) rfl 0 _ _ rfl rfl rfl).2
      have h3 : St w0 w (.box g2 43 #[.int .i64 0, .pointer none, .slice none 0 0, .slice none 0 0, .slice none 0 0, .slice none 0 0] :: .box g1 43 #[.int .i64 R, .pointer la, .slice Cs ns cs, .slice Ar rl.length cr, .slice An nl.length cn, .slice Ag gl.length cg] :: F) (fun D w => ((K1 D w ∧ Sl w D 5 x0 rl.length xr) ∧ Sl w D 2 x1 nl.length xn) ∧ Sl w D 2 x2 gl.length xg) := hS
      have hc := sl_cells (h3.ro.1.1.2)
      exact opw_cstore rfl e12 e5 (h3.box 1 rfl) (show 3 < 6 by decide) hc.1 hc.2 (by kernel_rfl) fun w' hbx hup => hK _ w' (h3.upd 1 rfl (.box g1 43 #[.int .i64 R, .pointer la, .slice Cs ns cs, x0, .slice An nl.length cn, .slice Ag gl.length cg]) (upd_gb hup) ⟨(h3.holds (.box g1 43 _) (List.mem_of_getElem? (i := 1) rfl)).1, hbx⟩ fun _ e => .inl e)
    · rw [want_none rfl] at hwant; cases hwant
  case r11 =>
    refine qread rfl fun b__ w vs hS hcov hold hpre heff => ?_
    refine ⟨fun hwant K hK => ?_, fun hwant => ?_⟩
    · clear hwant
      have e1 : b__.eval (.tmp 1) = .pointer (some ⟨g1, 0, none⟩) := (hold 1 (by kernel_rfl)).trans rfl
      exact opw_faddr rfl e1 (by kernel_rfl) (hK _ rfl)
    · rw [want_none rfl] at hwant; cases hwant
  case r12 =>
    refine qturn 4 rfl (by decide) fun b__ w vs hS hl hold hpre heff => ?_
    obtain ⟨x0, x1, x2, x3, rfl⟩ := vs_len4 hl
    refine ⟨fun hwant K hK => ?_, fun hwant => ?_⟩
    · clear hwant
      have e13 : b__.eval (.tmp 13) = .pointer (some ⟨g1, 4, none⟩) := hpre ⟨11, _⟩ (Array.mem_of_getElem? (i := 0) rfl) rfl _ _ rfl rfl rfl
      have e8 : b__.eval (.tmp 8) = x1 := (heff ⟨5, _⟩ (Array.mem_of_getElem? (i := 1) rfl) rfl 1 _ _ rfl rfl rfl).2
      have h3 : St w0 w (.box g2 43 #[.int .i64 0, .pointer none, .slice none 0 0, .slice none 0 0, .slice none 0 0, .slice none 0 0] :: .box g1 43 #[.int .i64 R, .pointer la, .slice Cs ns cs, x0, .slice An nl.length cn, .slice Ag gl.length cg] :: F) (fun D w => ((K1 D w ∧ Sl w D 5 x0 rl.length xr) ∧ Sl w D 2 x1 nl.length xn) ∧ Sl w D 2 x2 gl.length xg) := hS
      have hc := sl_cells (h3.ro.1.2)
      exact opw_cstore rfl e13 e8 (h3.box 1 rfl) (show 4 < 6 by decide) hc.1 hc.2 (by kernel_rfl) fun w' hbx hup => hK _ w' (h3.upd 1 rfl (.box g1 43 #[.int .i64 R, .pointer la, .slice Cs ns cs, x0, x1, .slice Ag gl.length cg]) (upd_gb hup) ⟨(h3.holds (.box g1 43 _) (List.mem_of_getElem? (i := 1) rfl)).1, hbx⟩ fun _ e => .inl e)
    · rw [want_none rfl] at hwant; cases hwant
  case r13 =>
    refine qread rfl fun b__ w vs hS hcov hold hpre heff => ?_
    refine ⟨fun hwant K hK => ?_, fun hwant => ?_⟩
    · clear hwant
      have e1 : b__.eval (.tmp 1) = .pointer (some ⟨g1, 0, none⟩) := (hold 1 (by kernel_rfl)).trans rfl
      exact opw_faddr rfl e1 (by kernel_rfl) (hK _ rfl)
    · rw [want_none rfl] at hwant; cases hwant
  case r14 =>
    refine qturn 5 rfl (by decide) fun b__ w vs hS hl hold hpre heff => ?_
    obtain ⟨x0, x1, x2, x3, x4, rfl⟩ := vs_len5 hl
    refine ⟨fun hwant K hK => ?_, fun hwant => ?_⟩
    · clear hwant
      have e14 : b__.eval (.tmp 14) = .pointer (some ⟨g1, 5, none⟩) := hpre ⟨13, _⟩ (Array.mem_of_getElem? (i := 0) rfl) rfl _ _ rfl rfl rfl
      have e11 : b__.eval (.tmp 11) = x2 := (heff ⟨8, _⟩ (Array.mem_of_getElem? (i := 1) rfl) rfl 2 _ _ rfl rfl rfl).2
      have h3 : St w0 w (.box g2 43 #[.int .i64 0, .pointer none, .slice none 0 0, .slice none 0 0, .slice none 0 0, .slice none 0 0] :: .box g1 43 #[.int .i64 R, .pointer la, .slice Cs ns cs, x0, x1, .slice Ag gl.length cg] :: F) (fun D w => ((K1 D w ∧ Sl w D 5 x0 rl.length xr) ∧ Sl w D 2 x1 nl.length xn) ∧ Sl w D 2 x2 gl.length xg) := hS
      have hc := sl_cells (h3.ro.2)
      exact opw_cstore rfl e14 e11 (h3.box 1 rfl) (show 5 < 6 by decide) hc.1 hc.2 (by kernel_rfl) fun w' hbx hup => hK _ w' (h3.upd 1 rfl (.box g1 43 #[.int .i64 R, .pointer la, .slice Cs ns cs, x0, x1, x2]) (upd_gb hup) ⟨(h3.holds (.box g1 43 _) (List.mem_of_getElem? (i := 1) rfl)).1, hbx⟩ fun _ e => .inl e)
    · rw [want_none rfl] at hwant; cases hwant
  case post =>
    intro b__ wz vs hS hl hdf hsz hold hT hE
    obtain ⟨x0, x1, x2, x3, x4, x5, rfl⟩ := vs_len6 hl
    have e3 : b__.eval (.tmp 3) = .pointer (some ⟨g1, 3, none⟩) := hT 0 _ 3 rfl rfl rfl
    have e4 : b__.eval (.tmp 4) = .slice Ar rl.length cr := hT 1 _ 4 rfl rfl rfl
    have e5 : b__.eval (.tmp 5) = x0 := hE 0 2 _ 5 rfl rfl rfl
    have e6 : b__.eval (.tmp 6) = .pointer (some ⟨g1, 4, none⟩) := hT 3 _ 6 rfl rfl rfl
    have e7 : b__.eval (.tmp 7) = .slice An nl.length cn := hT 4 _ 7 rfl rfl rfl
    have e8 : b__.eval (.tmp 8) = x1 := hE 1 5 _ 8 rfl rfl rfl
    have e9 : b__.eval (.tmp 9) = .pointer (some ⟨g1, 5, none⟩) := hT 6 _ 9 rfl rfl rfl
    have e10 : b__.eval (.tmp 10) = .slice Ag gl.length cg := hT 7 _ 10 rfl rfl rfl
    have e11 : b__.eval (.tmp 11) = x2 := hE 2 8 _ 11 rfl rfl rfl
    have e12 : b__.eval (.tmp 12) = .pointer (some ⟨g1, 3, none⟩) := hT 9 _ 12 rfl rfl rfl
    have e13 : b__.eval (.tmp 13) = .pointer (some ⟨g1, 4, none⟩) := hT 11 _ 13 rfl rfl rfl
    have e14 : b__.eval (.tmp 14) = .pointer (some ⟨g1, 5, none⟩) := hT 13 _ 14 rfl rfl rfl
    obtain ⟨us, hus, hb⟩ := frame_of hdf hsz hold
    replace e3 : us 3 = .pointer (some ⟨g1, 3, none⟩) := (hus 3).symm.trans e3
    replace e4 : us 4 = .slice Ar rl.length cr := (hus 4).symm.trans e4
    replace e5 : us 5 = x0 := (hus 5).symm.trans e5
    replace e6 : us 6 = .pointer (some ⟨g1, 4, none⟩) := (hus 6).symm.trans e6
    replace e7 : us 7 = .slice An nl.length cn := (hus 7).symm.trans e7
    replace e8 : us 8 = x1 := (hus 8).symm.trans e8
    replace e9 : us 9 = .pointer (some ⟨g1, 5, none⟩) := (hus 9).symm.trans e9
    replace e10 : us 10 = .slice Ag gl.length cg := (hus 10).symm.trans e10
    replace e11 : us 11 = x2 := (hus 11).symm.trans e11
    replace e12 : us 12 = .pointer (some ⟨g1, 3, none⟩) := (hus 12).symm.trans e12
    replace e13 : us 13 = .pointer (some ⟨g1, 4, none⟩) := (hus 13).symm.trans e13
    replace e14 : us 14 = .pointer (some ⟨g1, 5, none⟩) := (hus 14).symm.trans e14
    subst hb
    clear hus hold hT hE hdf hsz hl
    simp only [setAll, Act.put, List.setIfInBounds_toArray, List.set_cons_zero, List.set_cons_succ, List.getElem_toArray, List.getElem_cons_succ, List.getElem_cons_zero]
    have hS2 : St w0 wz (.box g2 43 #[.int .i64 0, .pointer none, .slice none 0 0, .slice none 0 0, .slice none 0 0, .slice none 0 0] :: .box g1 43 #[.int .i64 R, .pointer la, .slice Cs ns cs, x0, x1, x2] :: F) (fun D w => ((K1 D w ∧ Sl w D 5 x0 rl.length xr) ∧ Sl w D 2 x1 nl.length xn) ∧ Sl w D 2 x2 gl.length xg) := hS
    clear hS
    have hS := hS2
    clear hS2
    obtain ⟨A0, c0, rfl, _, _⟩ := hS.ro.1.1.2.shape
    obtain ⟨A1, c1, rfl, _, _⟩ := hS.ro.1.2.shape
    obtain ⟨A2, c2, rfl, _, _⟩ := hS.ro.2.shape
    go_wp2_with (first
      | ((with_reducible show wpList _ _ _ (⟨_, .load _ _, _, _, _, _⟩ :: _) _ _); first | refine st_load hS 0 rfl _ _ rfl _ rfl _ _ rfl _ Tryd.underlying43 rfl (by kernel_rfl) ?_ | refine st_load hS 1 rfl _ _ rfl _ rfl _ _ rfl _ Tryd.underlying43 rfl (by kernel_rfl) ?_ | refine st_load hS 2 rfl _ _ rfl _ rfl _ _ rfl _ Tryd.underlying43 rfl (by kernel_rfl) ?_ | refine st_load hS 3 rfl _ _ rfl _ rfl _ _ rfl _ Tryd.underlying43 rfl (by kernel_rfl) ?_)
      | ((with_reducible show wpList _ _ _ (⟨_, .store _ _ _, _, _, _, _⟩ :: _) _ _); (first | (refine st_store hS 0 rfl _ _ _ rfl _ _ rfl rfl _ _ rfl (by kernel_rfl) (by kernel_rfl) (by kernel_rfl) ?_) | (refine st_store hS 1 rfl _ _ _ rfl _ _ rfl rfl _ _ rfl (by kernel_rfl) (by kernel_rfl) (by kernel_rfl) ?_) | (refine st_store hS 2 rfl _ _ _ rfl _ _ rfl rfl _ _ rfl (by kernel_rfl) (by kernel_rfl) (by kernel_rfl) ?_) | (refine st_store hS 3 rfl _ _ _ rfl _ _ rfl rfl _ _ rfl (by kernel_rfl) (by kernel_rfl) (by kernel_rfl) ?_) | (refine st_cstore hS 0 rfl _ _ _ rfl _ _ _ rfl rfl rfl (by first | (simp; done) | (simp; omega) | exact of_decide_eq_true (by kernel_rfl)) rfl (by first | rfl | assumption) (by kernel_rfl) ?_) | (refine st_cstore hS 1 rfl _ _ _ rfl _ _ _ rfl rfl rfl (by first | (simp; done) | (simp; omega) | exact of_decide_eq_true (by kernel_rfl)) rfl (by first | rfl | assumption) (by kernel_rfl) ?_) | (refine st_cstore hS 2 rfl _ _ _ rfl _ _ _ rfl rfl rfl (by first | (simp; done) | (simp; omega) | exact of_decide_eq_true (by kernel_rfl)) rfl (by first | rfl | assumption) (by kernel_rfl) ?_) | (refine st_cstore hS 3 rfl _ _ _ rfl _ _ _ rfl rfl rfl (by first | (simp; done) | (simp; omega) | exact of_decide_eq_true (by kernel_rfl)) rfl (by first | rfl | assumption) (by kernel_rfl) ?_)); clear hS; intro w_ hS; (try simp only [Act.put, Act.eval, List.set_cons_zero, List.set_cons_succ, List.setIfInBounds_toArray, Array.getD_eq_getD_getElem?, List.getElem?_toArray, List.getElem?_cons_succ, List.getElem?_cons_zero, Option.getD_some, Value.cells] at hS)))
    refine ret_cell Tryd.results18 rfl (hS.box 0 rfl) Tryd.underlying43 rfl (by kernel_rfl) rfl ?_
    exact ⟨_, rfl, (hS.sub ((List.sublist_cons_self _ _).trans (List.sublist_cons_self _ _))).mono (KS.out.and stable_prob) fun D w h => ⟨k0 _ _ h.1.1.1, _, _, _, _, _, rfl, kh _ _ h.1.1.1, ks _ _ h.1.1.1, ⟨xr, h.1.1.2, kr2 _ _ h.1.1.1⟩, ⟨xn, h.1.2, kn2 _ _ h.1.1.1⟩, xg, h.2, kg2 _ _ h.1.1.1⟩⟩
end Go.Proofs.YtihpgmbinhmmlaaDoor
namespace Go.Proofs.YtihpgmbinhmmlaaDoor
open Go.RowKit
attribute [local go_sem ↓] Go.wp_at_zero Go.wp_at_succ
set_option maxRecDepth 20000
set_option exponentiation.threshold 5000

theorem ret3_cell {P : Program} {fn : Func} {p t2 t3 : Tmp} {ty : TypeId} {R : Ending → World → Prop} {a : Act} {w : World} {g : Nat} {t : TypeId} {cs : Array Value} {d : TypeDesc} {v u : Value} (h : fn.results = #[.cell p ty, .tmp t2, .tmp t3]) (hp : a.eval (.tmp p) = .pointer (some ⟨g, 0, none⟩)) (hb : Box w g t cs)
    (hu : P.underlying ty = some d) (hd : (match d with | .struct _ | .array _ _ => true | _ => false) = true) (hi : (P.info? ty).map (·.size) = some cs.size) (hv : a.eval (.tmp t2) = v) (hv2 : a.eval (.tmp t3) = u) (hdf : a.defers = []) (hR : R (.returned (.tuple #[.agg cs, v, u])) w) : bodyPost P fn R .ret a w := by
  have hr : (results fn a.tmps).run P w = .ok (.tuple #[.agg cs, v, u]) w := by
    have hp' : a.tmps[p]?.getD undef = .pointer (some ⟨g, 0, none⟩) := by simpa [Act.eval] using hp
    have hv' : a.tmps[t2]?.getD undef = v := by simpa [Act.eval] using hv
    have hv2' : a.tmps[t3]?.getD undef = u := by simpa [Act.eval] using hv2
    simp [results, h, hp', hv', hv2', asAddr, run_loadVar_row w g t ty cs (0, 0) d hb hu hd hi]
  exact bodyPost_ret hr hdf hR
def keepR (S : Nat) (l : List RuleD) : List RuleD := l.filter fun r => hasB S r.target
def keepN (S : Nat) (l : List RuleD) (j : Nat) : List Int := ((List.range j).filter fun k : Nat => hasB S (l.getD k dfltR).target).map fun k : Nat => (k : Int)
noncomputable def keepC (L : List (Nat × Nat)) (S : Nat) (l : List (Nat × Nat)) : List (Nat × Nat) := l.filter fun c => depC L c &&& S != 0
theorem keepR_step {S : Nat} {l : List RuleD} {j : Nat} {r : RuleD} (h : l[j]? = some r) : keepR S (l.take (j + 1)) = if hasB S r.target = true then keepR S (l.take j) ++ [r] else keepR S (l.take j) := by
  unfold keepR
  rw [List.take_add_one, h, List.filter_append]
  by_cases e : hasB S r.target = true <;> simp [e]
theorem keepN_step {S : Nat} {l : List RuleD} {j : Nat} {r : RuleD} (h : l[j]? = some r) : keepN S l (j + 1) = if hasB S r.target = true then keepN S l j ++ [(j : Int)] else keepN S l j := by
  unfold keepN
  have e : l.getD j dfltR = r := by rw [List.getD_eq_getElem?_getD, h]; rfl
  rw [List.range_succ, List.filter_append, List.map_append]
  by_cases e2 : hasB S r.target = true
  · rw [if_pos e2, List.filter_cons, e, if_pos e2]; rfl
  · rw [if_neg e2, List.filter_cons, e, if_neg e2]; simp
theorem keepC_step {L : List (Nat × Nat)} {S : Nat} {l : List (Nat × Nat)} {j : Nat} {c : Nat × Nat} (h : l[j]? = some c) : keepC L S (l.take (j + 1)) = if (depC L c &&& S != 0) = true then keepC L S (l.take j) ++ [c] else keepC L S (l.take j) := by
  unfold keepC
  rw [List.take_add_one, h, List.filter_append]
  by_cases e : (depC L c &&& S != 0) = true
  · rw [if_pos e]; simp [List.filter_cons, e]
  · rw [if_neg e]; simp [List.filter_cons, e]
theorem IsSet.off {w : World} {D : Nat → Prop} {v : Value} {N g : Nat} {t : TypeId} {cs : Array Value} (h : IsSet w D v N) (hb : Box w g t cs) (hc : ∀ (i : Nat) (x : Value), cs[i]? = some x → ∀ n : Int, x ≠ Value.int .u64 n) : IsSet w (fun b => D b ∧ b ≠ g) v N := by
  obtain ⟨u, l, rfl, h1, h2, h3, A, c, rfl, h4, h5, h6⟩ := h
  refine ⟨_, l, rfl, h1, h2, h3, A, c, rfl, h4, h5, fun hp => ?_⟩
  obtain ⟨b, o, rfl, q1, q2, q3⟩ := h6 hp
  refine ⟨b, o, rfl, ⟨q1, fun e => ?_⟩, q2, q3⟩
  subst e
  have h7 := q3 0 (.int .u64 (l.getD 0 0 : Nat)) (by
    cases l with
    | nil => simp at hp
    | cons y l => simp [u64s])
  rw [hb.cell] at h7
  exact hc _ _ h7 _ rfl
def zeroP : ProbD := ⟨0, none, 0, [], [], []⟩
noncomputable def ofP (p : ProbD) : ProbD := if checkE p = 0 then (match p.links with
  | none => zeroP
  | some L => ⟨p.roles, p.links, p.start &&& relM L p, keepR (relM L p) p.rules, keepC L (relM L p) p.never, p.goal⟩) else zeroP
noncomputable def ofKept (p : ProbD) : List Int := if checkE p = 0 then (match p.links with
  | none => []
  | some L => keepN (relM L p) p.rules p.rules.length) else []
theorem IsProb.parts {w : World} {D : Nat → Prop} {a lp s rv nv gv : Value} {p : ProbD} (h : IsProb w D (.agg #[a, lp, s, rv, nv, gv]) p) : IsHo w D lp p.links ∧ IsSet w D (.agg #[s]) p.start ∧ IsRules w D rv p.rules ∧ IsCubes w D nv p.never ∧ IsCubes w D gv p.goal := by
  obtain ⟨lp', s', rv', nv', gv', he, h1, h2, h3, h4, h5⟩ := h
  have e : a = .int .i64 p.roles ∧ lp = lp' ∧ s = s' ∧ rv = rv' ∧ nv = nv' ∧ gv = gv' := by simpa using he
  obtain ⟨-, rfl, rfl, rfl, rfl, rfl⟩ := e
  exact ⟨h1, h2, h3, h4, h5⟩
theorem RuleCells.append {w : World} {D : Nat → Prop} {xs ys : List Value} {l m : List RuleD} (hx : xs.length = l.length * 5) (h : RuleCells w D xs l) (k : RuleCells w D ys m) : RuleCells w D (xs ++ ys) (l ++ m) := fun i z hi => by
  rcases Nat.lt_or_ge i l.length with h1 | h1
  · rw [List.getElem?_append_left h1] at hi
    obtain ⟨a, b, q0, q1, q2, q3, q4, q5, q6⟩ := h i z hi
    refine ⟨a, b, ?_, ?_, ?_, ?_, ?_, q5, q6⟩
    all_goals rw [List.getElem?_append_left (by omega)]; assumption
  · rw [List.getElem?_append_right h1] at hi
    obtain ⟨a, b, q0, q1, q2, q3, q4, q5, q6⟩ := k _ z hi
    refine ⟨a, b, ?_, ?_, ?_, ?_, ?_, q5, q6⟩
    · rw [List.getElem?_append_right (by omega), ← q0]; congr 1; omega
    · rw [List.getElem?_append_right (by omega), ← q1]; congr 1; omega
    · rw [List.getElem?_append_right (by omega), ← q2]; congr 1; omega
    · rw [List.getElem?_append_right (by omega), ← q3]; congr 1; omega
    · rw [List.getElem?_append_right (by omega), ← q4]; congr 1; omega
theorem RuleCells.single {w : World} {D : Nat → Prop} {a b : Value} {z : RuleD} (ha : IsSet w D (.agg #[a]) z.yes) (hb : IsSet w D (.agg #[b]) z.no) : RuleCells w D [.bool z.revoke, a, b, .int .i64 z.target, .int .i64 z.origin] [z] := fun i x hi => by
  cases i with
  | zero => obtain rfl := Option.some.inj (show some z = some x from hi); exact ⟨a, b, rfl, rfl, rfl, rfl, rfl, ha, hb⟩
  | succ i => simp at hi
set_option maxHeartbeats 4000000 in
theorem of_slice_any {w0 w : World} {F : List Fact} {K : (Nat → Prop) → World → Prop} {v : Value} {p : ProbD} (hP : p.Ok) (hS : St w0 w F K) (kp : ∀ D w, K D w → IsProb w D v p) (kt : ∀ D w, K D w → DTab w) :
    Calls Tryd.prog 11 #[v] w fun e w' => ∃ u k, e = .returned (.tuple #[u, k, .int .i64 (checkE p)]) ∧ St w0 w' F fun D w => (K D w ∧ IsProb w D u (ofP p)) ∧ Sl w D 1 k (ofKept p).length (ints (ofKept p)) := by
  obtain ⟨R, lk, st, rl, nl, gl⟩ := p
  obtain ⟨lp, s, rv, nv, gv, rfl, hh, hs, hr, hn, hg⟩ := kp _ _ hS.ro
  dsimp only at hh hs hr hn hg
  have HP := Lib.hid hP
  obtain ⟨hP1, hP2, hP3, -⟩ := hP
  dsimp only at hP1 hP2 hP3
  have KS := Lib.hid hS.stable
  obtain ⟨Cs, ns, cs, rfl⟩ := hs.shape
  obtain ⟨Ar, cr, rfl, _, _⟩ := hr.shape
  obtain ⟨An, cn, rfl, _, _⟩ := hn.shape
  obtain ⟨Ag, cg, rfl, _, _⟩ := hg.shape
  clear hs hr hn hg
  dsimp only at kp ⊢
  obtain ⟨e, he⟩ : ∃ e, e = checkE ⟨R, lk, st, rl, nl, gl⟩ := ⟨_, rfl⟩
  have HE := Lib.hid he
  rw [← he]
  clear he
  by_cases h0 : e = 0
  · subst h0
    cases lk with
    | none => have := HE.out; cases this
    | some L =>
      have HH := Lib.hid (HP.out.links L rfl).1
      obtain ⟨q, o, rfl, -⟩ := hh
      obtain ⟨SM, hSM⟩ : ∃ S, S = relM L ⟨R, some L, st, rl, nl, gl⟩ := ⟨_, rfl⟩
      have HRS : Hid (relS ⟨R, some L, st, rl, nl, gl⟩ = SM) := Lib.hid (by unfold relS; rw [if_pos HE.out.symm, hSM])
      have HOF : Hid (ofP ⟨R, some L, st, rl, nl, gl⟩ = ⟨R, some L, st &&& SM, keepR SM rl, keepC L SM nl, gl⟩) := Lib.hid (by unfold ofP; rw [if_pos HE.out.symm, hSM])
      have HON : Hid (ofKept ⟨R, some L, st, rl, nl, gl⟩ = keepN SM rl rl.length) := Lib.hid (by unfold ofKept; rw [if_pos HE.out.symm, hSM])
      clear hSM
      go_enter Tryd.func11, Tryd.ntmps11
      go_wp2_with (first
        | ((with_reducible show wpList _ _ _ (⟨some 1, _, _, _, _, _⟩ :: _) _ _); refine st_box hS rfl _ _ rfl (.agg #[.int .i64 R, .pointer (some ⟨q, 0, none⟩), .slice Cs ns cs, .slice Ar rl.length cr, .slice An nl.length cn, .slice Ag gl.length cg]) _ rfl rfl ?_; clear hS; intro g1 w_ hS; (try simp only [Act.put, Act.eval, List.set_cons_zero, List.set_cons_succ, List.setIfInBounds_toArray, Array.getD_eq_getD_getElem?, List.getElem?_toArray, List.getElem?_cons_succ, List.getElem?_cons_zero, Option.getD_some, Value.cells] at hS))
        | ((with_reducible show wpList _ _ _ (⟨some 2, _, _, _, _, _⟩ :: _) _ _); refine st_allocz hS rfl _ rfl (by kernel_rfl) #[.int .i64 0, .pointer none, .slice none 0 0, .slice none 0 0, .slice none 0 0, .slice none 0 0] (by kernel_rfl) ?_; clear hS; intro g2 w_ hS; (try simp only [Act.put, Act.eval, List.set_cons_zero, List.set_cons_succ, List.setIfInBounds_toArray, Array.getD_eq_getD_getElem?, List.getElem?_toArray, List.getElem?_cons_succ, List.getElem?_cons_zero, Option.getD_some, Value.cells] at hS))
        | ((with_reducible show wpList _ _ _ (⟨some 6, _, _, _, _, _⟩ :: _) _ _); refine st_allocz hS rfl _ rfl (by kernel_rfl) #[.slice none 0 0] (by kernel_rfl) ?_; clear hS; intro g6 w_ hS; (try simp only [Act.put, Act.eval, List.set_cons_zero, List.set_cons_succ, List.setIfInBounds_toArray, Array.getD_eq_getD_getElem?, List.getElem?_toArray, List.getElem?_cons_succ, List.getElem?_cons_zero, Option.getD_some, Value.cells] at hS))
        | ((with_reducible show wpList _ _ _ (⟨some 7, _, _, _, _, _⟩ :: _) _ _); refine st_allocz hS rfl _ rfl (by kernel_rfl) #[.int .i64 0, .pointer none, .slice none 0 0, .slice none 0 0, .slice none 0 0, .slice none 0 0] (by kernel_rfl) ?_; clear hS; intro g7 w_ hS; (try simp only [Act.put, Act.eval, List.set_cons_zero, List.set_cons_succ, List.setIfInBounds_toArray, Array.getD_eq_getD_getElem?, List.getElem?_toArray, List.getElem?_cons_succ, List.getElem?_cons_zero, Option.getD_some, Value.cells] at hS))
        | ((with_reducible show wpList _ _ _ (⟨_, .binOp _ _ _ _ _, _, _, _, _⟩ :: _) _ _); (first | (refine st_lss rfl _ _ _ _ rfl _ _ _ rfl rfl (fun h_ => ?_) (fun h_ => ?_)) | (refine st_leq rfl _ _ _ _ rfl _ _ _ rfl rfl (fun h_ => ?_) (fun h_ => ?_)) | (refine st_gtr rfl _ _ _ _ rfl _ _ _ rfl rfl (fun h_ => ?_) (fun h_ => ?_)) | (refine st_geq rfl _ _ _ _ rfl _ _ _ rfl rfl (fun h_ => ?_) (fun h_ => ?_)) | (refine st_eql rfl _ _ _ _ rfl _ _ _ rfl rfl (fun h_ => ?_) (fun h_ => ?_)) | (refine st_neq rfl _ _ _ _ rfl _ _ _ rfl rfl (fun h_ => ?_) (fun h_ => ?_))) <;> go_prune)
        | ((with_reducible show wpList _ _ _ (⟨_, .load 43 _, _, _, _, _⟩ :: _) _ _); first | refine BigFrame.wpList_want rfl fun _ hK => opw_row rfl rfl (hS.box 1 rfl) Tryd.underlying43 rfl (by kernel_rfl) (hK _ _ ?_) | refine BigFrame.wpList_want rfl fun _ hK => opw_row rfl rfl (hS.box 2 rfl) Tryd.underlying43 rfl (by kernel_rfl) (hK _ _ ?_))
        | ((with_reducible show wpList _ _ _ (⟨_, .store _ _ _, _, _, _, _⟩ :: _) _ _); (first | (refine st_store hS 0 rfl _ _ _ rfl _ _ rfl rfl _ _ rfl (by kernel_rfl) (by kernel_rfl) (by kernel_rfl) ?_) | (refine st_store hS 1 rfl _ _ _ rfl _ _ rfl rfl _ _ rfl (by kernel_rfl) (by kernel_rfl) (by kernel_rfl) ?_) | (refine st_store hS 2 rfl _ _ _ rfl _ _ rfl rfl _ _ rfl (by kernel_rfl) (by kernel_rfl) (by kernel_rfl) ?_) | (refine st_store hS 3 rfl _ _ _ rfl _ _ rfl rfl _ _ rfl (by kernel_rfl) (by kernel_rfl) (by kernel_rfl) ?_) | (refine st_cstore hS 0 rfl _ _ _ rfl _ _ _ rfl rfl rfl (by first | (simp; done) | (simp; omega) | exact of_decide_eq_true (by kernel_rfl)) rfl (by first | rfl | assumption) (by kernel_rfl) ?_) | (refine st_cstore hS 1 rfl _ _ _ rfl _ _ _ rfl rfl rfl (by first | (simp; done) | (simp; omega) | exact of_decide_eq_true (by kernel_rfl)) rfl (by first | rfl | assumption) (by kernel_rfl) ?_) | (refine st_cstore hS 2 rfl _ _ _ rfl _ _ _ rfl rfl rfl (by first | (simp; done) | (simp; omega) | exact of_decide_eq_true (by kernel_rfl)) rfl (by first | rfl | assumption) (by kernel_rfl) ?_) | (refine st_cstore hS 3 rfl _ _ _ rfl _ _ _ rfl rfl rfl (by first | (simp; done) | (simp; omega) | exact of_decide_eq_true (by kernel_rfl)) rfl (by first | rfl | assumption) (by kernel_rfl) ?_)); clear hS; intro w_ hS; (try simp only [Act.put, Act.eval, List.set_cons_zero, List.set_cons_succ, List.setIfInBounds_toArray, Array.getD_eq_getD_getElem?, List.getElem?_toArray, List.getElem?_cons_succ, List.getElem?_cons_zero, Option.getD_some, Value.cells] at hS))
        | (go_at_call 17; refine (schk_any (kp _ _ hS.ro) HP.out (kt _ _ hS.ro)).mono ?_; rw [← HE.out]; rintro r_ w_ ⟨_, rfl, rfl, hb_⟩; replace hS := hS.ext hb_; clear hb_)
        | (go_at_call 12; refine (relevant_any (kp _ _ hS.ro) HP.out (kt _ _ hS.ro)).mono ?_; rw [HRS.out]; rintro r_ w_ ⟨_, rfl, h1, hb_⟩; replace hS := hS.ret hb_ stable_set h1; clear h1 hb_; obtain ⟨A6, c6, l6, rfl, -⟩ := hS.ro.2.parts; obtain ⟨n6, hn6⟩ : ∃ n, n = l6.length := ⟨_, rfl⟩; rw [← hn6] at hS ⊢; clear hn6)
        | (go_at_call 18; refine (copy_any HP.out hS (fun D w h => kp D w h.1)).mono ?_; clear hS; rintro r_ w_ ⟨u7, rfl, hS⟩; obtain ⟨lp7, s7, rv7, nv7, gv7, rfl, hh7, hs7, hr7, hn7, hg7⟩ := id hS.ro.2; dsimp only at hh7 hs7 hr7 hn7 hg7; obtain ⟨q7, o7, rfl, -⟩ := hh7; obtain ⟨C7, m7, d7, rfl⟩ := hs7.shape; obtain ⟨Ar7, cr7, rfl, _, _⟩ := hr7.shape; obtain ⟨An7, cn7, rfl, _, _⟩ := hn7.shape; obtain ⟨Ag7, cg7, rfl, _, _⟩ := hg7.shape; clear hs7 hr7 hn7 hg7))
      obtain ⟨K7, k0, k6, kq, ks7, hS2⟩ : ∃ K7 : (Nat → Prop) → World → Prop, (∀ D w, K7 D w → K D w) ∧ (∀ D w, K7 D w → IsSet w D (.agg #[.slice A6 n6 c6]) SM) ∧ (∀ D w, K7 D w → IsProb w D (.agg #[.int .i64 R, .pointer (some ⟨q7, 0, none⟩), .slice C7 m7 d7, .slice Ar7 rl.length cr7, .slice An7 nl.length cn7, .slice Ag7 gl.length cg7]) ⟨R, some L, st, rl, nl, gl⟩) ∧ (∀ D w, K7 D w → IsSet w D (.agg #[.slice C7 m7 d7]) st) ∧ St w0 w_ (.box g7 43 #[.int .i64 R, .pointer (some ⟨q7, 0, none⟩), .slice C7 m7 d7, .slice Ar7 rl.length cr7, .slice An7 nl.length cn7, .slice Ag7 gl.length cg7] :: .box g6 31 #[.slice A6 n6 c6] :: .box g2 43 #[.int .i64 0, .pointer none, .slice none 0 0, .slice none 0 0, .slice none 0 0, .slice none 0 0] :: .box g1 43 #[.int .i64 R, .pointer (some ⟨q, 0, none⟩), .slice Cs ns cs, .slice Ar rl.length cr, .slice An nl.length cn, .slice Ag gl.length cg] :: F) K7 := ⟨_, fun _ _ h => h.1.1, fun _ _ h => h.1.2, fun _ _ h => h.2, fun _ _ h => h.2.parts.2.1, hS⟩
      clear hS
      have hS := hS2
      clear hS2
      have KS7 := Lib.hid hS.stable
      refine wp_region_tail2 (fun i__ lo hi v w => match i__ with
        | 0 => v = .pointer (some ⟨g7, 0, none⟩)
        | 1 => v = .int .i64 R
        | 2 => v = .pointer (some ⟨g7, 1, none⟩)
        | 3 => v = .pointer (some ⟨q7, 0, none⟩)
        | 4 => v = .pointer (some ⟨g7, 2, none⟩)
        | 5 => v = .agg #[.slice C7 m7 d7]
        | 6 => v = .agg #[.slice A6 n6 c6]
        | 7 => ∃ u, v = .agg #[u] ∧ u.oneCell' = true ∧ IsSet w (fun z => w_.heap.size ≤ z) (.agg #[u]) (st &&& SM)
        | 8 => v = .pointer (some ⟨g7, 5, none⟩)
        | 9 => v = .slice Ag7 gl.length cg7
        | 10 => ∃ u, v = .agg #[.int .i64 R, .pointer (some ⟨q7, 0, none⟩), u, .slice none 0 0, .slice none 0 0, .slice Ag7 gl.length cg7] ∧ u.oneCell' = true ∧ IsSet w (fun z => w_.heap.size ≤ z) (.agg #[u]) (st &&& SM)
        | 11 => ∃ g, v = .pointer (some ⟨g, 0, none⟩) ∧ Box w g 43 (zeroCells Tryd.prog 43) ∧ lo ≤ g ∧ g < hi
        | 12 => True
        | _ => True) 12 [] (by kernel_rfl) (by kernel_rfl) (by kernel_rfl) (by kernel_rfl) (by kernel_rfl) ?mono ⟨.inr ?r0, .inr ?r1, .inr ?r2, .inr ?r3, .inr ?r4, .inr ?r5, .inr ?r6, .inr ?r7, .inr ?r8, .inr ?r9, .inr ?r10, .inr ?r11, .inl (by decide), trivial⟩ ?post
      case mono =>
        intro i lo hi v w w' h hb
        match i, h with
        | 0, h => exact h
        | 1, h => exact h
        | 2, h => exact h
        | 3, h => exact h
        | 4, h => exact h
        | 5, h => exact h
        | 6, h => exact h
        | 7, h => exact ⟨_, h.choose_spec.1, h.choose_spec.2.1, h.choose_spec.2.2.ext hb⟩
        | 8, h => exact h
        | 9, h => exact h
        | 10, h => exact ⟨_, h.choose_spec.1, h.choose_spec.2.1, h.choose_spec.2.2.ext hb⟩
        | 11, h => exact by obtain ⟨g, e, hb2, h1⟩ := h; exact ⟨g, e, hb2.ext hb, h1⟩
        | 12, h => exact h
        | _ + 13, h => trivial
      case r0 =>
        refine truleG fun b__ w hW hold hpre => ⟨fun hwant K hK => ?_, fun hwant => ?_⟩
        · clear hwant
          have e7 : b__.eval (.tmp 7) = .pointer (some ⟨g7, 0, none⟩) := (hold 7 (by kernel_rfl)).trans rfl
          exact opw_faddr rfl e7 (by kernel_rfl) (hK _ _ rfl (Below.refl _ _))
        · rw [want_none rfl] at hwant; cases hwant
      case r1 =>
        refine truleG fun b__ w hW hold hpre => ⟨fun hwant K hK => ?_, fun hwant => ?_⟩
        · clear hwant
          have e24 : b__.eval (.tmp 24) = .pointer (some ⟨g7, 0, none⟩) := by obtain ⟨_, _, h⟩ := hpre ⟨0, _⟩ (Array.mem_of_getElem? (i := 0) rfl) rfl _ _ rfl rfl; exact h
          exact opw_cell rfl e24 (by kernel_rfl) (((hS.ext (undrew hW)).box 0 rfl).cell 0) (hK _ _ rfl (Below.refl _ _))
        · rw [want_none rfl] at hwant; cases hwant
      case r2 =>
        refine truleG fun b__ w hW hold hpre => ⟨fun hwant K hK => ?_, fun hwant => ?_⟩
        · clear hwant
          have e7 : b__.eval (.tmp 7) = .pointer (some ⟨g7, 0, none⟩) := (hold 7 (by kernel_rfl)).trans rfl
          exact opw_faddr rfl e7 (by kernel_rfl) (hK _ _ rfl (Below.refl _ _))
        · rw [want_none rfl] at hwant; cases hwant
      case r3 =>
        refine truleG fun b__ w hW hold hpre => ⟨fun hwant K hK => ?_, fun hwant => ?_⟩
        · clear hwant
          have e26 : b__.eval (.tmp 26) = .pointer (some ⟨g7, 1, none⟩) := by obtain ⟨_, _, h⟩ := hpre ⟨2, _⟩ (Array.mem_of_getElem? (i := 0) rfl) rfl _ _ rfl rfl; exact h
          exact opw_cell rfl e26 (by kernel_rfl) (((hS.ext (undrew hW)).box 0 rfl).cell 1) (hK _ _ rfl (Below.refl _ _))
        · rw [want_none rfl] at hwant; cases hwant
      case r4 =>
        refine truleG fun b__ w hW hold hpre => ⟨fun hwant K hK => ?_, fun hwant => ?_⟩
        · clear hwant
          have e7 : b__.eval (.tmp 7) = .pointer (some ⟨g7, 0, none⟩) := (hold 7 (by kernel_rfl)).trans rfl
          exact opw_faddr rfl e7 (by kernel_rfl) (hK _ _ rfl (Below.refl _ _))
        · rw [want_none rfl] at hwant; cases hwant
      case r5 =>
        refine truleG fun b__ w hW hold hpre => ⟨fun hwant K hK => ?_, fun hwant => ?_⟩
        · clear hwant
          have e28 : b__.eval (.tmp 28) = .pointer (some ⟨g7, 2, none⟩) := by obtain ⟨_, _, h⟩ := hpre ⟨4, _⟩ (Array.mem_of_getElem? (i := 0) rfl) rfl _ _ rfl rfl; exact h
          exact opw_row1 rfl e28 ((hS.ext (undrew hW)).box 0 rfl) rfl Tryd.underlying31 (by kernel_rfl) (by kernel_rfl) (hK _ _ rfl (Below.refl _ _))
        · rw [want_none rfl] at hwant; cases hwant
      case r6 =>
        refine truleG fun b__ w hW hold hpre => ⟨fun hwant K hK => ?_, fun hwant => ?_⟩
        · clear hwant
          have e6 : b__.eval (.tmp 6) = .pointer (some ⟨g6, 0, none⟩) := (hold 6 (by kernel_rfl)).trans rfl
          exact opw_row rfl e6 ((hS.ext (undrew hW)).box 1 rfl) Tryd.underlying31 rfl (by kernel_rfl) (hK _ _ rfl (Below.refl _ _))
        · rw [want_none rfl] at hwant; cases hwant
      case r7 =>
        refine truleG fun b__ w hW hold hpre => ⟨fun hwant K hK => ?_, fun hwant => ?_⟩
        · clear hwant
          have e29 : b__.eval (.tmp 29) = .agg #[.slice C7 m7 d7] := by obtain ⟨_, _, h⟩ := hpre ⟨5, _⟩ (Array.mem_of_getElem? (i := 0) rfl) rfl _ _ rfl rfl; exact h
          have e30 : b__.eval (.tmp 30) = .agg #[.slice A6 n6 c6] := by obtain ⟨_, _, h⟩ := hpre ⟨6, _⟩ (Array.mem_of_getElem? (i := 1) rfl) rfl _ _ rfl rfl; exact h
          refine opw_call rfl (by kernel_rfl) (by simp only [List.map_cons, List.map_nil, e29, e30]) (and_any (ks7 _ _ (hS.ext (undrew hW)).ro) (k6 _ _ (hS.ext (undrew hW)).ro)) fun v w' h hb => ?_
          obtain ⟨u, rfl, h1⟩ := set_one h
          exact hK _ w' ⟨u, rfl, h1, h.imp fun z hz _ => Nat.le_trans (undrew hW).size hz⟩ hb
        · rw [want_none rfl] at hwant; cases hwant
      case r8 =>
        refine truleG fun b__ w hW hold hpre => ⟨fun hwant K hK => ?_, fun hwant => ?_⟩
        · clear hwant
          have e7 : b__.eval (.tmp 7) = .pointer (some ⟨g7, 0, none⟩) := (hold 7 (by kernel_rfl)).trans rfl
          exact opw_faddr rfl e7 (by kernel_rfl) (hK _ _ rfl (Below.refl _ _))
        · rw [want_none rfl] at hwant; cases hwant
      case r9 =>
        refine truleG fun b__ w hW hold hpre => ⟨fun hwant K hK => ?_, fun hwant => ?_⟩
        · clear hwant
          have e32 : b__.eval (.tmp 32) = .pointer (some ⟨g7, 5, none⟩) := by obtain ⟨_, _, h⟩ := hpre ⟨8, _⟩ (Array.mem_of_getElem? (i := 0) rfl) rfl _ _ rfl rfl; exact h
          exact opw_cell rfl e32 (by kernel_rfl) (((hS.ext (undrew hW)).box 0 rfl).cell 5) (hK _ _ rfl (Below.refl _ _))
        · rw [want_none rfl] at hwant; cases hwant
      case r10 =>
        refine truleG fun b__ w hW hold hpre => ⟨fun hwant K hK => ?_, fun hwant => ?_⟩
        · clear hwant
          have e25 : b__.eval (.tmp 25) = .int .i64 R := by obtain ⟨_, _, h⟩ := hpre ⟨1, _⟩ (Array.mem_of_getElem? (i := 0) rfl) rfl _ _ rfl rfl; exact h
          have e27 : b__.eval (.tmp 27) = .pointer (some ⟨q7, 0, none⟩) := by obtain ⟨_, _, h⟩ := hpre ⟨3, _⟩ (Array.mem_of_getElem? (i := 1) rfl) rfl _ _ rfl rfl; exact h
          obtain ⟨lo31, hi31, e31⟩ : ∃ lo hi : Nat, (fun (v : Value) (w : World) => ∃ u, v = .agg #[u] ∧ u.oneCell' = true ∧ IsSet w (fun z => w_.heap.size ≤ z) (.agg #[u]) (st &&& SM)) (b__.eval (.tmp 31)) w := hpre ⟨7, _⟩ (Array.mem_of_getElem? (i := 2) rfl) rfl _ _ rfl rfl
          have e33 : b__.eval (.tmp 33) = .slice Ag7 gl.length cg7 := by obtain ⟨_, _, h⟩ := hpre ⟨9, _⟩ (Array.mem_of_getElem? (i := 3) rfl) rfl _ _ rfl rfl; exact h
          obtain ⟨u, hu, h1, h2⟩ := e31
          exact opw_built rfl (ps := [(0, .int .i64 R), (1, .pointer (some ⟨q7, 0, none⟩)), (2, .agg #[u]), (5, .slice Ag7 gl.length cg7)]) (cells := #[.int .i64 R, .pointer (some ⟨q7, 0, none⟩), u, .slice none 0 0, .slice none 0 0, .slice Ag7 gl.length cg7]) (by simp [e25, e27, hu, e33]) (by kernel_rfl) (hK _ _ ⟨u, rfl, h1, h2⟩ (Below.refl _ _))
        · rw [want_none rfl] at hwant; cases hwant
      case r11 =>
        refine truleG fun b__ w hW hold hpre => ⟨fun hwant K hK => opw_alloc rfl (by kernel_rfl) fun w' hb hbel => hK _ _ ⟨_, rfl, hb, Nat.le_refl _, hb.lt⟩ hbel, fun hwant => ?_⟩
        rw [want_none rfl] at hwant; cases hwant
      case post =>
        intro b__ wz lo hi hW hdf hsz hold hT hap hlim
        have e8 : (fun (v : Value) (w : World) => ∃ g, v = .pointer (some ⟨g, 0, none⟩) ∧ Box w g 43 (zeroCells Tryd.prog 43) ∧ (lo 11) ≤ g ∧ g < (hi 11)) (b__.eval (.tmp 8)) wz := hT 11 _ 8 (by decide) rfl rfl
        have e34 : (fun (v : Value) (w : World) => ∃ u, v = .agg #[.int .i64 R, .pointer (some ⟨q7, 0, none⟩), u, .slice none 0 0, .slice none 0 0, .slice Ag7 gl.length cg7] ∧ u.oneCell' = true ∧ IsSet w (fun z => w_.heap.size ≤ z) (.agg #[u]) (st &&& SM)) (b__.eval (.tmp 34)) wz := hT 10 _ 34 (by decide) rfl rfl
        have e24 : b__.eval (.tmp 24) = .pointer (some ⟨g7, 0, none⟩) := hT 0 _ 24 (by decide) rfl rfl
        have e25 : b__.eval (.tmp 25) = .int .i64 R := hT 1 _ 25 (by decide) rfl rfl
        have e26 : b__.eval (.tmp 26) = .pointer (some ⟨g7, 1, none⟩) := hT 2 _ 26 (by decide) rfl rfl
        have e27 : b__.eval (.tmp 27) = .pointer (some ⟨q7, 0, none⟩) := hT 3 _ 27 (by decide) rfl rfl
        have e28 : b__.eval (.tmp 28) = .pointer (some ⟨g7, 2, none⟩) := hT 4 _ 28 (by decide) rfl rfl
        have e29 : b__.eval (.tmp 29) = .agg #[.slice C7 m7 d7] := hT 5 _ 29 (by decide) rfl rfl
        have e30 : b__.eval (.tmp 30) = .agg #[.slice A6 n6 c6] := hT 6 _ 30 (by decide) rfl rfl
        have e31 : (fun (v : Value) (w : World) => ∃ u, v = .agg #[u] ∧ u.oneCell' = true ∧ IsSet w (fun z => w_.heap.size ≤ z) (.agg #[u]) (st &&& SM)) (b__.eval (.tmp 31)) wz := hT 7 _ 31 (by decide) rfl rfl
        have e32 : b__.eval (.tmp 32) = .pointer (some ⟨g7, 5, none⟩) := hT 8 _ 32 (by decide) rfl rfl
        have e33 : b__.eval (.tmp 33) = .slice Ag7 gl.length cg7 := hT 9 _ 33 (by decide) rfl rfl
        obtain ⟨vs, hvs, hb⟩ := frame_of hdf hsz hold
        replace e8 := (hvs 8) ▸ e8
        replace e34 := (hvs 34) ▸ e34
        replace e24 : vs 24 = .pointer (some ⟨g7, 0, none⟩) := (hvs 24).symm.trans e24
        replace e25 : vs 25 = .int .i64 R := (hvs 25).symm.trans e25
        replace e26 : vs 26 = .pointer (some ⟨g7, 1, none⟩) := (hvs 26).symm.trans e26
        replace e27 : vs 27 = .pointer (some ⟨q7, 0, none⟩) := (hvs 27).symm.trans e27
        replace e28 : vs 28 = .pointer (some ⟨g7, 2, none⟩) := (hvs 28).symm.trans e28
        replace e29 : vs 29 = .agg #[.slice C7 m7 d7] := (hvs 29).symm.trans e29
        replace e30 : vs 30 = .agg #[.slice A6 n6 c6] := (hvs 30).symm.trans e30
        replace e31 := (hvs 31) ▸ e31
        replace e32 : vs 32 = .pointer (some ⟨g7, 5, none⟩) := (hvs 32).symm.trans e32
        replace e33 : vs 33 = .slice Ag7 gl.length cg7 := (hvs 33).symm.trans e33
        subst hb
        clear hvs hold hT hdf hsz
        simp only [setAll, Act.put, List.setIfInBounds_toArray, List.set_cons_zero, List.set_cons_succ, List.getElem_toArray, List.getElem_cons_succ, List.getElem_cons_zero]
        obtain ⟨g8, e8, hb8, l8, u8⟩ := e8
        obtain ⟨u, e34, hu1, hu2⟩ := e34
        obtain ⟨Au, cu, lu, hvu, -⟩ := hu2.parts
        obtain rfl : u = .slice Au lu.length cu := by injection hvu with hvu; simpa using hvu
        clear hvu
        obtain ⟨nu, hnu⟩ : ∃ n, n = lu.length := ⟨_, rfl⟩
        rw [← hnu] at hu2 e34
        clear hnu
        have L11 := (hlim 11 (by decide) (by decide)).1
        have hz : zeroCells Tryd.prog 43 = #[.int .i64 0, .pointer none, .slice none 0 0, .slice none 0 0, .slice none 0 0, .slice none 0 0] := by kernel_rfl
        rw [hz] at hb8
        have hu3 := hu2.off hb8 (by
          intro i x hx n
          match i, hx with
          | 0, hx => cases hx; exact nofun
          | 1, hx => cases hx; exact nofun
          | 2, hx => cases hx; exact nofun
          | 3, hx => cases hx; exact nofun
          | 4, hx => cases hx; exact nofun
          | 5, hx => cases hx; exact nofun
          | i + 6, hx => simp at hx)
        have hfr : ∀ b, (w_.heap.size ≤ b ∧ b ≠ g8) → Free (.box g8 43 #[.int .i64 0, .pointer none, .slice none 0 0, .slice none 0 0, .slice none 0 0, .slice none 0 0] :: (.box g7 43 #[.int .i64 R, .pointer (some ⟨q7, 0, none⟩), .slice C7 m7 d7, .slice Ar7 rl.length cr7, .slice An7 nl.length cn7, .slice Ag7 gl.length cg7] :: .box g6 31 #[.slice A6 n6 c6] :: .box g2 43 #[.int .i64 0, .pointer none, .slice none 0 0, .slice none 0 0, .slice none 0 0, .slice none 0 0] :: .box g1 43 #[.int .i64 R, .pointer (some ⟨q, 0, none⟩), .slice Cs ns cs, .slice Ar rl.length cr, .slice An nl.length cn, .slice Ag gl.length cg] :: F)) b := fun b hb f hf => by
          rcases List.mem_cons.1 hf with rfl | hf
          · exact fun e => hb.2 (by injection e with e; exact e.symm)
          · exact hS.fresh hb.1 f hf
        have hS2 := (hS.new hW (.box g8 43 #[.int .i64 0, .pointer none, .slice none 0 0, .slice none 0 0, .slice none 0 0, .slice none 0 0]) ⟨by omega, hb8⟩).add stable_set hu3 fun b hb _ => hfr b hb
        clear hS hu2 hu3 hfr hW hlim hap hz
        have hS := hS2
        clear hS2
        simp only [show vs (8 : Nat) = _ from e8, show vs (34 : Nat) = _ from e34]
        (intro o_ ho_; simp only [List.getElem?_toArray, List.getElem?_cons_succ, List.getElem?_cons_zero, Option.some.injEq] at ho_; subst ho_)
        refine opw_store rfl rfl rfl (hS.box 0 rfl) (by kernel_rfl) (by kernel_rfl) (by simp [Value.oneCell']) fun w4 h4 hU4 => ?_
        replace hS := hS.upd 0 rfl (.box g8 43 #[.int .i64 R, .pointer (some ⟨q7, 0, none⟩), .slice Au nu cu, .slice none 0 0, .slice none 0 0, .slice Ag7 gl.length cg7]) (upd_gb hU4) ⟨(hS.holds (.box g8 43 #[.int .i64 0, .pointer none, .slice none 0 0, .slice none 0 0, .slice none 0 0, .slice none 0 0]) (by simp)).1, h4⟩ fun _ e => .inl e
        simp only [TailWp]
        simp only [Act.put, List.setIfInBounds_toArray, List.set_cons_zero, List.set_cons_succ]
        clear h4 hU4 hb8 e8 e34 l8 u8 L11
        go_wp2_with (first | ((with_reducible show wpList _ _ _ (⟨_, .load _ _, _, _, _, _⟩ :: _) _ _); first | (refine st_cell hS 0 rfl _ _ rfl _ _ rfl _ _ rfl (by decide +kernel) _ (by first | assumption | rfl) ?_) | (refine st_cell hS 1 rfl _ _ rfl _ _ rfl _ _ rfl (by decide +kernel) _ (by first | assumption | rfl) ?_) | (refine st_cell hS 2 rfl _ _ rfl _ _ rfl _ _ rfl (by decide +kernel) _ (by first | assumption | rfl) ?_) | (refine st_cell hS 3 rfl _ _ rfl _ _ rfl _ _ rfl (by decide +kernel) _ (by first | assumption | rfl) ?_) | (refine st_cell hS 4 rfl _ _ rfl _ _ rfl _ _ rfl (by decide +kernel) _ (by first | assumption | rfl) ?_) | (refine st_cell hS 5 rfl _ _ rfl _ _ rfl _ _ rfl (by decide +kernel) _ (by first | assumption | rfl) ?_) | (refine st_cell hS 6 rfl _ _ rfl _ _ rfl _ _ rfl (by decide +kernel) _ (by first | assumption | rfl) ?_) | (refine st_cell hS 7 rfl _ _ rfl _ _ rfl _ _ rfl (by decide +kernel) _ (by first | assumption | rfl) ?_)))
        obtain ⟨KA, ka, kr7, kn7, hS2⟩ : ∃ KA : (Nat → Prop) → World → Prop, Hid (∀ D w, KA D w → K7 D w ∧ IsSet w D (.agg #[.slice Au nu cu]) (st &&& SM)) ∧ (∀ D w, KA D w → IsRules w D (.slice Ar7 rl.length cr7) rl) ∧ (∀ D w, KA D w → IsCubes w D (.slice An7 nl.length cn7) nl) ∧ St w0 w4 (.box g8 43 #[.int .i64 R, .pointer (some ⟨q7, 0, none⟩), .slice Au nu cu, .slice none 0 0, .slice none 0 0, .slice Ag7 gl.length cg7] :: (.box g7 43 #[.int .i64 R, .pointer (some ⟨q7, 0, none⟩), .slice C7 m7 d7, .slice Ar7 rl.length cr7, .slice An7 nl.length cn7, .slice Ag7 gl.length cg7] :: .box g6 31 #[.slice A6 n6 c6] :: .box g2 43 #[.int .i64 0, .pointer none, .slice none 0 0, .slice none 0 0, .slice none 0 0, .slice none 0 0] :: .box g1 43 #[.int .i64 R, .pointer (some ⟨q, 0, none⟩), .slice Cs ns cs, .slice Ar rl.length cr, .slice An nl.length cn, .slice Ag gl.length cg] :: F)) KA := ⟨_, Lib.hid fun D w h => ⟨h.1, h.2.imp fun _ h _ => h⟩, fun D w h => (kq _ _ h.1).parts.2.2.1, fun D w h => (kq _ _ h.1).parts.2.2.2.1, hS⟩
        clear hS
        have hS := (hS2.nil 39 5).nil 3 1
        clear hS2
        have KSA := Lib.hid hS.stable
        go_loopw [9, 38] (fun kw i wr => ∃ (j : Nat) (kv rv : Value) (xs : List Value), i = .int .i64 (j : Nat) ∧ kv = kw ∧ j ≤ rl.length ∧ St w0 wr (.own kv 3 1 (keepN SM rl j).length (ints (keepN SM rl j)) :: .own rv 39 5 (keepR SM (rl.take j)).length xs :: .box g8 43 #[.int .i64 R, .pointer (some ⟨q7, 0, none⟩), .slice Au nu cu, rv, .slice none 0 0, .slice Ag7 gl.length cg7] :: (.box g7 43 #[.int .i64 R, .pointer (some ⟨q7, 0, none⟩), .slice C7 m7 d7, .slice Ar7 rl.length cr7, .slice An7 nl.length cn7, .slice Ag7 gl.length cg7] :: .box g6 31 #[.slice A6 n6 c6] :: .box g2 43 #[.int .i64 0, .pointer none, .slice none 0 0, .slice none 0 0, .slice none 0 0, .slice none 0 0] :: .box g1 43 #[.int .i64 R, .pointer (some ⟨q, 0, none⟩), .slice Cs ns cs, .slice Ar rl.length cr, .slice An nl.length cn, .slice Ag gl.length cg] :: F)) (fun D w => KA D w ∧ RuleCells w D xs (keepR SM (rl.take j)))) (fun _ i _ => rl.length - (intOf i).toNat)
        case atStart => exact ⟨0, _, _, [], rfl, rfl, by omega, hS.mono (KSA.out.and stable_rcells) fun D w h => ⟨h, fun i z hi => by simp [keepR] at hi⟩⟩
        case round =>
          clear hS
          obtain ⟨j, kv, rv, xs, rfl, rfl, hj, hS⟩ := hrel
          by_cases hlj : j < rl.length
          · obtain ⟨b, o2, y, n, rfl, _, hb, c0, c1, c2, c3, c4, hy, hn⟩ := (kr7 _ _ hS.ro.1).at_ hlj
            obtain ⟨Ay, my, cy, rfl⟩ := hy.shape
            obtain ⟨Am, mn, cm, rfl⟩ := hn.shape
            have HGj := Lib.hid (getD_at dfltR hlj)
            have HLK : Hid ((keepR SM (rl.take j)).length ≤ 100000 ∧ (keepN SM rl j).length ≤ 100000) := Lib.hid ⟨Nat.le_trans (List.length_filter_le _ _) (by rw [List.length_take]; omega), by unfold keepN; rw [List.length_map]; exact Nat.le_trans (List.length_filter_le _ _) (by rw [List.length_range]; omega)⟩
            obtain ⟨KC, kc, hS2⟩ : ∃ KC : (Nat → Prop) → World → Prop, Hid (∀ D w, KC D w → (KA D w ∧ RuleCells w D xs (keepR SM (rl.take j))) ∧ IsSet w D (.agg #[.slice Ay my cy]) (rl.getD j dfltR).yes ∧ IsSet w D (.agg #[.slice Am mn cm]) (rl.getD j dfltR).no) ∧ St w0 wr (.own kv 3 1 (keepN SM rl j).length (ints (keepN SM rl j)) :: .own rv 39 5 (keepR SM (rl.take j)).length xs :: .box g8 43 #[.int .i64 R, .pointer (some ⟨q7, 0, none⟩), .slice Au nu cu, rv, .slice none 0 0, .slice Ag7 gl.length cg7] :: (.box g7 43 #[.int .i64 R, .pointer (some ⟨q7, 0, none⟩), .slice C7 m7 d7, .slice (some ⟨b, o2, none⟩) rl.length cr7, .slice An7 nl.length cn7, .slice Ag7 gl.length cg7] :: .box g6 31 #[.slice A6 n6 c6] :: .box g2 43 #[.int .i64 0, .pointer none, .slice none 0 0, .slice none 0 0, .slice none 0 0, .slice none 0 0] :: .box g1 43 #[.int .i64 R, .pointer (some ⟨q, 0, none⟩), .slice Cs ns cs, .slice Ar rl.length cr, .slice An nl.length cn, .slice Ag gl.length cg] :: F)) KC := ⟨_, Lib.hid fun D w h => h, hS.add (D := Free _) (stable_set.and stable_set) ⟨hy, hn⟩ fun _ h _ => h⟩
            clear hS hy hn
            have hS := hS2
            clear hS2
            have HTR := Lib.hid (keepR_step (S := SM) HGj.out)
            have HTN := Lib.hid (keepN_step (S := SM) HGj.out)
            generalize rl.getD j dfltR = z at *
            obtain ⟨zv, ry, rn, rt, ro⟩ := z
            dsimp only at kc c0 c1 c2 c3 c4
            obtain ⟨b1, hb1⟩ : ∃ b, b = hasB SM rt := ⟨_, rfl⟩
            have HB1 := Lib.hid hb1
            generalize hKR : keepR SM (rl.take j) = KR at *
            generalize hKN : keepN SM rl j = KN at *
            have k61 : Hid (∀ D w, KC D w → IsSet w D (.agg #[.slice A6 n6 c6]) SM) := Lib.hid fun D w h => k6 _ _ (ka.out _ _ (kc.out _ _ h).1.1).1
            cases b1
            · have HT1 : Hid (keepR SM (rl.take (j + 1)) = KR) := Lib.hid (HTR.out.trans (if_neg (by rw [← hb1]; exact Bool.false_ne_true)))
              have HT2 : Hid (keepN SM rl (j + 1) = KN) := Lib.hid (HTN.out.trans (if_neg (by rw [← hb1]; exact Bool.false_ne_true)))
              clear hb1 hKR hKN HTR HTN
              go_wp2_with (first
                | ((with_reducible show wpList _ _ _ (⟨_, .binOp _ _ _ _ _, _, _, _, _⟩ :: _) _ _); (first | (refine st_lss rfl _ _ _ _ rfl _ _ _ rfl rfl (fun h_ => ?_) (fun h_ => ?_)) | (refine st_leq rfl _ _ _ _ rfl _ _ _ rfl rfl (fun h_ => ?_) (fun h_ => ?_)) | (refine st_gtr rfl _ _ _ _ rfl _ _ _ rfl rfl (fun h_ => ?_) (fun h_ => ?_)) | (refine st_geq rfl _ _ _ _ rfl _ _ _ rfl rfl (fun h_ => ?_) (fun h_ => ?_)) | (refine st_eql rfl _ _ _ _ rfl _ _ _ rfl rfl (fun h_ => ?_) (fun h_ => ?_)) | (refine st_neq rfl _ _ _ _ rfl _ _ _ rfl rfl (fun h_ => ?_) (fun h_ => ?_))) <;> go_prune)
                | ((with_reducible show wpList _ _ _ (⟨some 42, _, _, _, _, _⟩ :: _) _ _); refine BigFrame.wpList_want rfl fun _ hK => opw_mid (cs := [.bool zv, .slice Ay my cy, .slice Am mn cm, .int .i64 rt, .int .i64 ro]) rfl rfl (rng5 c0 c1 c2 c3 c4) Tryd.underlying39 rfl (by kernel_rfl) (hK _ _ ?_))
                | ((with_reducible show wpList _ _ _ (⟨some 11, _, _, _, _, _⟩ :: _) _ _); refine st_allocz hS rfl _ rfl (by kernel_rfl) #[.bool false, .slice none 0 0, .slice none 0 0, .int .i64 0, .int .i64 0] (by kernel_rfl) ?_; clear hS; intro g11 w_ hS; (try simp only [Act.put, Act.eval, List.set_cons_zero, List.set_cons_succ, List.setIfInBounds_toArray, Array.getD_eq_getD_getElem?, List.getElem?_toArray, List.getElem?_cons_succ, List.getElem?_cons_zero, Option.getD_some, Value.cells] at hS))
                | ((with_reducible show wpList _ _ _ (⟨_, .store _ _ _, _, _, _, _⟩ :: _) _ _); (first | (refine st_store hS 0 rfl _ _ _ rfl _ _ rfl rfl _ _ rfl (by kernel_rfl) (by kernel_rfl) (by kernel_rfl) ?_) | (refine st_store hS 1 rfl _ _ _ rfl _ _ rfl rfl _ _ rfl (by kernel_rfl) (by kernel_rfl) (by kernel_rfl) ?_) | (refine st_store hS 2 rfl _ _ _ rfl _ _ rfl rfl _ _ rfl (by kernel_rfl) (by kernel_rfl) (by kernel_rfl) ?_) | (refine st_store hS 3 rfl _ _ _ rfl _ _ rfl rfl _ _ rfl (by kernel_rfl) (by kernel_rfl) (by kernel_rfl) ?_) | (refine st_cstore hS 0 rfl _ _ _ rfl _ _ _ rfl rfl rfl (by first | (simp; done) | (simp; omega) | exact of_decide_eq_true (by kernel_rfl)) rfl (by first | rfl | assumption) (by kernel_rfl) ?_) | (refine st_cstore hS 1 rfl _ _ _ rfl _ _ _ rfl rfl rfl (by first | (simp; done) | (simp; omega) | exact of_decide_eq_true (by kernel_rfl)) rfl (by first | rfl | assumption) (by kernel_rfl) ?_) | (refine st_cstore hS 2 rfl _ _ _ rfl _ _ _ rfl rfl rfl (by first | (simp; done) | (simp; omega) | exact of_decide_eq_true (by kernel_rfl)) rfl (by first | rfl | assumption) (by kernel_rfl) ?_) | (refine st_cstore hS 3 rfl _ _ _ rfl _ _ _ rfl rfl rfl (by first | (simp; done) | (simp; omega) | exact of_decide_eq_true (by kernel_rfl)) rfl (by first | rfl | assumption) (by kernel_rfl) ?_)); clear hS; intro w_ hS; (try simp only [Act.put, Act.eval, List.set_cons_zero, List.set_cons_succ, List.setIfInBounds_toArray, Array.getD_eq_getD_getElem?, List.getElem?_toArray, List.getElem?_cons_succ, List.getElem?_cons_zero, Option.getD_some, Value.cells] at hS))
                | ((with_reducible show wpList _ _ _ (⟨_, .load 31 _, _, _, _, _⟩ :: _) _ _); first | (refine st_setl hS 0 rfl _ _ rfl _ _ rfl _ _ rfl _ (by first | rfl | assumption) Tryd.underlying31 rfl (by kernel_rfl) ?_) | (refine st_setl hS 1 rfl _ _ rfl _ _ rfl _ _ rfl _ (by first | rfl | assumption) Tryd.underlying31 rfl (by kernel_rfl) ?_) | (refine st_setl hS 2 rfl _ _ rfl _ _ rfl _ _ rfl _ (by first | rfl | assumption) Tryd.underlying31 rfl (by kernel_rfl) ?_) | (refine st_setl hS 3 rfl _ _ rfl _ _ rfl _ _ rfl _ (by first | rfl | assumption) Tryd.underlying31 rfl (by kernel_rfl) ?_) | (refine st_setl hS 4 rfl _ _ rfl _ _ rfl _ _ rfl _ (by first | rfl | assumption) Tryd.underlying31 rfl (by kernel_rfl) ?_) | (refine st_setl hS 5 rfl _ _ rfl _ _ rfl _ _ rfl _ (by first | rfl | assumption) Tryd.underlying31 rfl (by kernel_rfl) ?_))
                | ((with_reducible show wpList _ _ _ (⟨_, .load _ _, _, _, _, _⟩ :: _) _ _); first | (refine st_cell hS 0 rfl _ _ rfl _ _ rfl _ _ rfl (by decide +kernel) _ (by first | assumption | rfl) ?_) | (refine st_cell hS 1 rfl _ _ rfl _ _ rfl _ _ rfl (by decide +kernel) _ (by first | assumption | rfl) ?_) | (refine st_cell hS 2 rfl _ _ rfl _ _ rfl _ _ rfl (by decide +kernel) _ (by first | assumption | rfl) ?_) | (refine st_cell hS 3 rfl _ _ rfl _ _ rfl _ _ rfl (by decide +kernel) _ (by first | assumption | rfl) ?_) | (refine st_cell hS 4 rfl _ _ rfl _ _ rfl _ _ rfl (by decide +kernel) _ (by first | assumption | rfl) ?_) | (refine st_cell hS 5 rfl _ _ rfl _ _ rfl _ _ rfl (by decide +kernel) _ (by first | assumption | rfl) ?_) | (refine st_cell hS 6 rfl _ _ rfl _ _ rfl _ _ rfl (by decide +kernel) _ (by first | assumption | rfl) ?_) | (refine st_cell hS 7 rfl _ _ rfl _ _ rfl _ _ rfl (by decide +kernel) _ (by first | assumption | rfl) ?_))
                | (go_at_call 20; refine (has_any _ SM rt _ _ (k61.out _ _ hS.ro)).mono ?_; rw [← HB1.out]; rintro r_ w_ ⟨_, rfl, rfl, hb_⟩; replace hS := hS.ext hb_; clear hb_)
                )
              refine ⟨⟨j + 1, _, rv, xs, by go_num, rfl, hlj, ?_⟩, by simp [intOf]; omega⟩
              rw [HT1.out, HT2.out]
              exact (hS.sub (List.sublist_cons_self _ _)).mono (KSA.out.and stable_rcells) fun D w h => (kc.out _ _ h).1
            · have HT1 : Hid (keepR SM (rl.take (j + 1)) = KR ++ [⟨zv, ry, rn, rt, ro⟩]) := Lib.hid (HTR.out.trans (if_pos hb1.symm))
              have HT2 : Hid (keepN SM rl (j + 1) = KN ++ [(j : Int)]) := Lib.hid (HTN.out.trans (if_pos hb1.symm))
              clear hb1 hKR hKN HTR HTN
              have hkl1 := HLK.out.1
              have hkl2 := HLK.out.2
              obtain ⟨Arv, crv, rfl, _, _⟩ := own_shp (hS.own 1 rfl)
              go_wp2_with (first
                | ((with_reducible show wpList _ _ _ (⟨_, .binOp _ _ _ _ _, _, _, _, _⟩ :: _) _ _); (first | (refine st_lss rfl _ _ _ _ rfl _ _ _ rfl rfl (fun h_ => ?_) (fun h_ => ?_)) | (refine st_leq rfl _ _ _ _ rfl _ _ _ rfl rfl (fun h_ => ?_) (fun h_ => ?_)) | (refine st_gtr rfl _ _ _ _ rfl _ _ _ rfl rfl (fun h_ => ?_) (fun h_ => ?_)) | (refine st_geq rfl _ _ _ _ rfl _ _ _ rfl rfl (fun h_ => ?_) (fun h_ => ?_)) | (refine st_eql rfl _ _ _ _ rfl _ _ _ rfl rfl (fun h_ => ?_) (fun h_ => ?_)) | (refine st_neq rfl _ _ _ _ rfl _ _ _ rfl rfl (fun h_ => ?_) (fun h_ => ?_))) <;> go_prune)
                | ((with_reducible show wpList _ _ _ (⟨some 42, _, _, _, _, _⟩ :: _) _ _); refine BigFrame.wpList_want rfl fun _ hK => opw_mid (cs := [.bool zv, .slice Ay my cy, .slice Am mn cm, .int .i64 rt, .int .i64 ro]) rfl rfl (rng5 c0 c1 c2 c3 c4) Tryd.underlying39 rfl (by kernel_rfl) (hK _ _ ?_))
                | ((with_reducible show wpList _ _ _ (⟨some 11, _, _, _, _, _⟩ :: _) _ _); refine st_allocz hS rfl _ rfl (by kernel_rfl) #[.bool false, .slice none 0 0, .slice none 0 0, .int .i64 0, .int .i64 0] (by kernel_rfl) ?_; clear hS; intro g11 w_ hS; (try simp only [Act.put, Act.eval, List.set_cons_zero, List.set_cons_succ, List.setIfInBounds_toArray, Array.getD_eq_getD_getElem?, List.getElem?_toArray, List.getElem?_cons_succ, List.getElem?_cons_zero, Option.getD_some, Value.cells] at hS))
                | ((with_reducible show wpList _ _ _ (⟨_, .store _ _ _, _, _, _, _⟩ :: _) _ _); (first | (refine st_store hS 0 rfl _ _ _ rfl _ _ rfl rfl _ _ rfl (by kernel_rfl) (by kernel_rfl) (by kernel_rfl) ?_) | (refine st_store hS 1 rfl _ _ _ rfl _ _ rfl rfl _ _ rfl (by kernel_rfl) (by kernel_rfl) (by kernel_rfl) ?_) | (refine st_store hS 2 rfl _ _ _ rfl _ _ rfl rfl _ _ rfl (by kernel_rfl) (by kernel_rfl) (by kernel_rfl) ?_) | (refine st_store hS 3 rfl _ _ _ rfl _ _ rfl rfl _ _ rfl (by kernel_rfl) (by kernel_rfl) (by kernel_rfl) ?_) | (refine st_cstore hS 0 rfl _ _ _ rfl _ _ _ rfl rfl rfl (by first | (simp; done) | (simp; omega) | exact of_decide_eq_true (by kernel_rfl)) rfl (by first | rfl | assumption) (by kernel_rfl) ?_) | (refine st_cstore hS 1 rfl _ _ _ rfl _ _ _ rfl rfl rfl (by first | (simp; done) | (simp; omega) | exact of_decide_eq_true (by kernel_rfl)) rfl (by first | rfl | assumption) (by kernel_rfl) ?_) | (refine st_cstore hS 2 rfl _ _ _ rfl _ _ _ rfl rfl rfl (by first | (simp; done) | (simp; omega) | exact of_decide_eq_true (by kernel_rfl)) rfl (by first | rfl | assumption) (by kernel_rfl) ?_) | (refine st_cstore hS 3 rfl _ _ _ rfl _ _ _ rfl rfl rfl (by first | (simp; done) | (simp; omega) | exact of_decide_eq_true (by kernel_rfl)) rfl (by first | rfl | assumption) (by kernel_rfl) ?_)); clear hS; intro w_ hS; (try simp only [Act.put, Act.eval, List.set_cons_zero, List.set_cons_succ, List.setIfInBounds_toArray, Array.getD_eq_getD_getElem?, List.getElem?_toArray, List.getElem?_cons_succ, List.getElem?_cons_zero, Option.getD_some, Value.cells] at hS))
                | ((with_reducible show wpList _ _ _ (⟨_, .load 31 _, _, _, _, _⟩ :: _) _ _); first | (refine st_setl hS 0 rfl _ _ rfl _ _ rfl _ _ rfl _ (by first | rfl | assumption) Tryd.underlying31 rfl (by kernel_rfl) ?_) | (refine st_setl hS 1 rfl _ _ rfl _ _ rfl _ _ rfl _ (by first | rfl | assumption) Tryd.underlying31 rfl (by kernel_rfl) ?_) | (refine st_setl hS 2 rfl _ _ rfl _ _ rfl _ _ rfl _ (by first | rfl | assumption) Tryd.underlying31 rfl (by kernel_rfl) ?_) | (refine st_setl hS 3 rfl _ _ rfl _ _ rfl _ _ rfl _ (by first | rfl | assumption) Tryd.underlying31 rfl (by kernel_rfl) ?_) | (refine st_setl hS 4 rfl _ _ rfl _ _ rfl _ _ rfl _ (by first | rfl | assumption) Tryd.underlying31 rfl (by kernel_rfl) ?_) | (refine st_setl hS 5 rfl _ _ rfl _ _ rfl _ _ rfl _ (by first | rfl | assumption) Tryd.underlying31 rfl (by kernel_rfl) ?_))
                | ((with_reducible show wpList _ _ _ (⟨_, .load _ _, _, _, _, _⟩ :: _) _ _); first | (refine st_cell hS 0 rfl _ _ rfl _ _ rfl _ _ rfl (by decide +kernel) _ (by first | assumption | rfl) ?_) | (refine st_cell hS 1 rfl _ _ rfl _ _ rfl _ _ rfl (by decide +kernel) _ (by first | assumption | rfl) ?_) | (refine st_cell hS 2 rfl _ _ rfl _ _ rfl _ _ rfl (by decide +kernel) _ (by first | assumption | rfl) ?_) | (refine st_cell hS 3 rfl _ _ rfl _ _ rfl _ _ rfl (by decide +kernel) _ (by first | assumption | rfl) ?_) | (refine st_cell hS 4 rfl _ _ rfl _ _ rfl _ _ rfl (by decide +kernel) _ (by first | assumption | rfl) ?_) | (refine st_cell hS 5 rfl _ _ rfl _ _ rfl _ _ rfl (by decide +kernel) _ (by first | assumption | rfl) ?_) | (refine st_cell hS 6 rfl _ _ rfl _ _ rfl _ _ rfl (by decide +kernel) _ (by first | assumption | rfl) ?_) | (refine st_cell hS 7 rfl _ _ rfl _ _ rfl _ _ rfl (by decide +kernel) _ (by first | assumption | rfl) ?_))
                | (go_at_call 20; refine (has_any _ SM rt _ _ (k61.out _ _ hS.ro)).mono ?_; rw [← HB1.out]; rintro r_ w_ ⟨_, rfl, rfl, hb_⟩; replace hS := hS.ext hb_; clear hb_)
                | ((with_reducible show wpList _ _ _ (⟨_, .load _ _, _, _, _, _⟩ :: _) _ _); first | refine st_load hS 0 rfl _ _ rfl _ rfl _ _ rfl _ Tryd.underlying39 rfl (by kernel_rfl) ?_ | refine st_load hS 1 rfl _ _ rfl _ rfl _ _ rfl _ Tryd.underlying39 rfl (by kernel_rfl) ?_ | refine st_load hS 2 rfl _ _ rfl _ rfl _ _ rfl _ Tryd.underlying39 rfl (by kernel_rfl) ?_ | refine st_load hS 3 rfl _ _ rfl _ rfl _ _ rfl _ Tryd.underlying39 rfl (by kernel_rfl) ?_)
                | ((with_reducible show wpList _ _ _ (⟨some 50, _, _, _, _, _⟩ :: _) _ _); refine st_push hS 2 rfl rfl _ _ _ _ rfl rfl ty_rules (.slice Arv KR.length crv) KR.length xs (.agg #[.bool zv, .slice Ay my cy, .slice Am mn cm, .int .i64 rt, .int .i64 ro]) #[.bool zv, .slice Ay my cy, .slice Am mn cm, .int .i64 rt, .int .i64 ro] rfl (by kernel_rfl) rfl rfl rfl rfl (by intro u hu; simp at hu; rcases hu with rfl | rfl | rfl | rfl | rfl <;> rfl) (by omega) (by omega) ?_; clear hS; intro z_ v' w_ hS; (try simp only [Act.put, Act.eval, List.set_cons_zero, List.set_cons_succ, List.setIfInBounds_toArray, Array.getD_eq_getD_getElem?, List.getElem?_toArray, List.getElem?_cons_succ, List.getElem?_cons_zero, Option.getD_some, Value.cells] at hS); obtain ⟨Arv2, crv2, rfl, _, _⟩ := own_shp (hS.own 2 rfl))
                | ((with_reducible show wpList _ _ _ (⟨some 54, _, _, _, _, _⟩ :: _) _ _); refine st_push hS 1 rfl rfl _ _ _ _ rfl rfl ty_ints kv KN.length (ints KN) (.int .i64 (j : Nat)) #[.int .i64 (j : Nat)] rfl (by kernel_rfl) rfl rfl rfl rfl (by intro u hu; simp at hu; subst hu; rfl) (by omega) (by omega) ?_; clear hS; intro z_ kv' w_ hS; (try simp only [Act.put, Act.eval, List.set_cons_zero, List.set_cons_succ, List.setIfInBounds_toArray, Array.getD_eq_getD_getElem?, List.getElem?_toArray, List.getElem?_cons_succ, List.getElem?_cons_zero, Option.getD_some, Value.cells] at hS)))
              have hxl := (hS.own 2 rfl).1
              refine ⟨⟨j + 1, _, .slice Arv2 (KR.length + 1) crv2, xs ++ [.bool zv, .slice Ay my cy, .slice Am mn cm, .int .i64 rt, .int .i64 ro], by go_num, rfl, hlj, ?_⟩, by simp [intOf]; omega⟩
              rw [HT1.out, HT2.out, show (KR ++ [(⟨zv, ry, rn, rt, ro⟩ : RuleD)]).length = KR.length + 1 by simp, show (KN ++ [(j : Int)]).length = KN.length + 1 by simp, show ints (KN ++ [(j : Int)]) = ints KN ++ [.int .i64 (j : Nat)] by simp [ints]]
              exact (hS.sub (List.sublist_cons_self _ _)).mono (KSA.out.and stable_rcells) fun D w h => ⟨(kc.out _ _ h).1.1, RuleCells.append (by simp at hxl; omega) (kc.out _ _ h).1.2 (RuleCells.single (z := ⟨zv, ry, rn, rt, ro⟩) (kc.out _ _ h).2.1 (kc.out _ _ h).2.2)⟩
          · obtain rfl : rl.length = j := by omega
            rw [List.take_length] at hS
            have HLK : Hid ((keepR SM rl).length ≤ 100000) := Lib.hid (Nat.le_trans (List.length_filter_le _ _) (by omega))
            go_wp2_with (first | ((with_reducible show wpList _ _ _ (⟨_, .binOp _ _ _ _ _, _, _, _, _⟩ :: _) _ _); (first | (refine st_lss rfl _ _ _ _ rfl _ _ _ rfl rfl (fun h_ => ?_) (fun h_ => ?_)) | (refine st_leq rfl _ _ _ _ rfl _ _ _ rfl rfl (fun h_ => ?_) (fun h_ => ?_)) | (refine st_gtr rfl _ _ _ _ rfl _ _ _ rfl rfl (fun h_ => ?_) (fun h_ => ?_)) | (refine st_geq rfl _ _ _ _ rfl _ _ _ rfl rfl (fun h_ => ?_) (fun h_ => ?_)) | (refine st_eql rfl _ _ _ _ rfl _ _ _ rfl rfl (fun h_ => ?_) (fun h_ => ?_)) | (refine st_neq rfl _ _ _ _ rfl _ _ _ rfl rfl (fun h_ => ?_) (fun h_ => ?_))) <;> go_prune) | ((with_reducible show wpList _ _ _ (⟨_, .load _ _, _, _, _, _⟩ :: _) _ _); first | (refine st_cell hS 0 rfl _ _ rfl _ _ rfl _ _ rfl (by decide +kernel) _ (by first | assumption | rfl) ?_) | (refine st_cell hS 1 rfl _ _ rfl _ _ rfl _ _ rfl (by decide +kernel) _ (by first | assumption | rfl) ?_) | (refine st_cell hS 2 rfl _ _ rfl _ _ rfl _ _ rfl (by decide +kernel) _ (by first | assumption | rfl) ?_) | (refine st_cell hS 3 rfl _ _ rfl _ _ rfl _ _ rfl (by decide +kernel) _ (by first | assumption | rfl) ?_) | (refine st_cell hS 4 rfl _ _ rfl _ _ rfl _ _ rfl (by decide +kernel) _ (by first | assumption | rfl) ?_) | (refine st_cell hS 5 rfl _ _ rfl _ _ rfl _ _ rfl (by decide +kernel) _ (by first | assumption | rfl) ?_) | (refine st_cell hS 6 rfl _ _ rfl _ _ rfl _ _ rfl (by decide +kernel) _ (by first | assumption | rfl) ?_) | (refine st_cell hS 7 rfl _ _ rfl _ _ rfl _ _ rfl (by decide +kernel) _ (by first | assumption | rfl) ?_)))
            obtain ⟨KR, hKR⟩ : ∃ KR, KR = keepR SM rl := ⟨_, rfl⟩
            obtain ⟨KN, hKN⟩ : ∃ KN, KN = keepN SM rl rl.length := ⟨_, rfl⟩
            have HKR := Lib.hid hKR
            have HKN := Lib.hid hKN
            rw [← hKR] at hS HLK
            rw [← hKN] at hS
            clear hKR hKN
            obtain ⟨Arv, crv, rfl, _, _⟩ := own_shp (hS.own 1 rfl)
            obtain ⟨KB, kb, hS2⟩ : ∃ KB : (Nat → Prop) → World → Prop, Hid (∀ D w, KB D w → KA D w ∧ RuleCells w D xs KR) ∧ St w0 wr (.own kv 3 1 KN.length (ints KN) :: .own (.slice Arv KR.length crv) 39 5 KR.length xs :: .box g8 43 #[.int .i64 R, .pointer (some ⟨q7, 0, none⟩), .slice Au nu cu, .slice Arv KR.length crv, .slice none 0 0, .slice Ag7 gl.length cg7] :: (.box g7 43 #[.int .i64 R, .pointer (some ⟨q7, 0, none⟩), .slice C7 m7 d7, .slice Ar7 rl.length cr7, .slice An7 nl.length cn7, .slice Ag7 gl.length cg7] :: .box g6 31 #[.slice A6 n6 c6] :: .box g2 43 #[.int .i64 0, .pointer none, .slice none 0 0, .slice none 0 0, .slice none 0 0, .slice none 0 0] :: .box g1 43 #[.int .i64 R, .pointer (some ⟨q, 0, none⟩), .slice Cs ns cs, .slice Ar rl.length cr, .slice An nl.length cn, .slice Ag gl.length cg] :: F)) KB := ⟨_, Lib.hid fun _ _ h => h, hS⟩
            clear hS
            have hS := hS2.nil 33 2
            clear hS2
            have KSB := Lib.hid hS.stable
            go_loopw [61] (fun i wr => ∃ (j : Nat) (nv : Value) (ys : List Value), i = .int .i64 (j : Nat) ∧ j ≤ nl.length ∧ St w0 wr (.own nv 33 2 (keepC L SM (nl.take j)).length ys :: .own kv 3 1 KN.length (ints KN) :: .own (.slice Arv KR.length crv) 39 5 KR.length xs :: .box g8 43 #[.int .i64 R, .pointer (some ⟨q7, 0, none⟩), .slice Au nu cu, .slice Arv KR.length crv, nv, .slice Ag7 gl.length cg7] :: (.box g7 43 #[.int .i64 R, .pointer (some ⟨q7, 0, none⟩), .slice C7 m7 d7, .slice Ar7 rl.length cr7, .slice An7 nl.length cn7, .slice Ag7 gl.length cg7] :: .box g6 31 #[.slice A6 n6 c6] :: .box g2 43 #[.int .i64 0, .pointer none, .slice none 0 0, .slice none 0 0, .slice none 0 0, .slice none 0 0] :: .box g1 43 #[.int .i64 R, .pointer (some ⟨q, 0, none⟩), .slice Cs ns cs, .slice Ar rl.length cr, .slice An nl.length cn, .slice Ag gl.length cg] :: F)) (fun D w => KB D w ∧ CubeCells w D ys (keepC L SM (nl.take j)))) (fun i _ => nl.length - (intOf i).toNat)
            case atStart => exact ⟨0, _, [], rfl, by omega, hS.mono (KSB.out.and stable_cc) fun D w h => ⟨h, fun i y n hi => by simp [keepC] at hi⟩⟩
            case round =>
              clear hS
              obtain ⟨j, nv, ys, rfl, hj, hS⟩ := hrel
              by_cases hlj : j < nl.length
              · obtain ⟨b, o2, y, n, rfl, _, hb, c0, c1, hy, hn⟩ := (kn7 _ _ (kb.out _ _ hS.ro.1).1).at_ hlj
                obtain ⟨Ay, my, cy, rfl⟩ := hy.shape
                obtain ⟨Am, mn, cm, rfl⟩ := hn.shape
                have HGj := Lib.hid (getD_at (0, 0) hlj)
                have HLC : Hid ((keepC L SM (nl.take j)).length ≤ 100000) := Lib.hid (Nat.le_trans (List.length_filter_le _ _) (by rw [List.length_take]; omega))
                obtain ⟨KC, kc, hS2⟩ : ∃ KC : (Nat → Prop) → World → Prop, Hid (∀ D w, KC D w → (KB D w ∧ CubeCells w D ys (keepC L SM (nl.take j))) ∧ IsCube w D (.agg #[.slice Ay my cy, .slice Am mn cm]) (nl.getD j (0, 0))) ∧ St w0 wr (.own nv 33 2 (keepC L SM (nl.take j)).length ys :: .own kv 3 1 KN.length (ints KN) :: .own (.slice Arv KR.length crv) 39 5 KR.length xs :: .box g8 43 #[.int .i64 R, .pointer (some ⟨q7, 0, none⟩), .slice Au nu cu, .slice Arv KR.length crv, nv, .slice Ag7 gl.length cg7] :: (.box g7 43 #[.int .i64 R, .pointer (some ⟨q7, 0, none⟩), .slice C7 m7 d7, .slice Ar7 rl.length cr7, .slice (some ⟨b, o2, none⟩) nl.length cn7, .slice Ag7 gl.length cg7] :: .box g6 31 #[.slice A6 n6 c6] :: .box g2 43 #[.int .i64 0, .pointer none, .slice none 0 0, .slice none 0 0, .slice none 0 0, .slice none 0 0] :: .box g1 43 #[.int .i64 R, .pointer (some ⟨q, 0, none⟩), .slice Cs ns cs, .slice Ar rl.length cr, .slice An nl.length cn, .slice Ag gl.length cg] :: F)) KC := ⟨_, Lib.hid fun D w h => h, hS.add (D := Free _) stable_cube ⟨_, _, rfl, hy, hn⟩ fun _ h _ => h⟩
                clear hS hy hn
                have hS := hS2
                clear hS2
                have HTC := Lib.hid (keepC_step (L := L) (S := SM) HGj.out)
                generalize nl.getD j (0, 0) = z at *
                obtain ⟨b1, hb1⟩ : ∃ b, b = (depC L z &&& SM != 0) := ⟨_, rfl⟩
                have HB1 := Lib.hid hb1
                have HDZ : Hid (depM L (z.1 ||| z.2) = depC L z) := Lib.hid rfl
                generalize hKC : keepC L SM (nl.take j) = KCL at *
                have k62 : Hid (∀ D w, KC D w → K7 D w) := Lib.hid fun D w h => (ka.out _ _ (kb.out _ _ (kc.out _ _ h).1.1).1).1
                go_wp2_with (first
                  | ((with_reducible show wpList _ _ _ (⟨_, .binOp _ _ _ _ _, _, _, _, _⟩ :: _) _ _); (first | (refine st_lss rfl _ _ _ _ rfl _ _ _ rfl rfl (fun h_ => ?_) (fun h_ => ?_)) | (refine st_leq rfl _ _ _ _ rfl _ _ _ rfl rfl (fun h_ => ?_) (fun h_ => ?_)) | (refine st_gtr rfl _ _ _ _ rfl _ _ _ rfl rfl (fun h_ => ?_) (fun h_ => ?_)) | (refine st_geq rfl _ _ _ _ rfl _ _ _ rfl rfl (fun h_ => ?_) (fun h_ => ?_)) | (refine st_eql rfl _ _ _ _ rfl _ _ _ rfl rfl (fun h_ => ?_) (fun h_ => ?_)) | (refine st_neq rfl _ _ _ _ rfl _ _ _ rfl rfl (fun h_ => ?_) (fun h_ => ?_))) <;> go_prune)
                  | ((with_reducible show wpList _ _ _ (⟨some 64, _, _, _, _, _⟩ :: _) _ _); refine BigFrame.wpList_want rfl fun _ hK => opw_mid (cs := [.slice Ay my cy, .slice Am mn cm]) rfl rfl (rng2 c0 c1) Tryd.underlying33 rfl (by kernel_rfl) (hK _ _ ?_))
                  | ((with_reducible show wpList _ _ _ (⟨some 13, _, _, _, _, _⟩ :: _) _ _); refine st_allocz hS rfl _ rfl (by kernel_rfl) #[.slice none 0 0, .slice none 0 0] (by kernel_rfl) ?_; clear hS; intro g13 w_ hS; (try simp only [Act.put, Act.eval, List.set_cons_zero, List.set_cons_succ, List.setIfInBounds_toArray, Array.getD_eq_getD_getElem?, List.getElem?_toArray, List.getElem?_cons_succ, List.getElem?_cons_zero, Option.getD_some, Value.cells] at hS))
                  | ((with_reducible show wpList _ _ _ (⟨_, .store _ _ _, _, _, _, _⟩ :: _) _ _); (first | (refine st_store hS 0 rfl _ _ _ rfl _ _ rfl rfl _ _ rfl (by kernel_rfl) (by kernel_rfl) (by kernel_rfl) ?_) | (refine st_store hS 1 rfl _ _ _ rfl _ _ rfl rfl _ _ rfl (by kernel_rfl) (by kernel_rfl) (by kernel_rfl) ?_) | (refine st_store hS 2 rfl _ _ _ rfl _ _ rfl rfl _ _ rfl (by kernel_rfl) (by kernel_rfl) (by kernel_rfl) ?_) | (refine st_store hS 3 rfl _ _ _ rfl _ _ rfl rfl _ _ rfl (by kernel_rfl) (by kernel_rfl) (by kernel_rfl) ?_) | (refine st_cstore hS 0 rfl _ _ _ rfl _ _ _ rfl rfl rfl (by first | (simp; done) | (simp; omega) | exact of_decide_eq_true (by kernel_rfl)) rfl (by first | rfl | assumption) (by kernel_rfl) ?_) | (refine st_cstore hS 1 rfl _ _ _ rfl _ _ _ rfl rfl rfl (by first | (simp; done) | (simp; omega) | exact of_decide_eq_true (by kernel_rfl)) rfl (by first | rfl | assumption) (by kernel_rfl) ?_) | (refine st_cstore hS 2 rfl _ _ _ rfl _ _ _ rfl rfl rfl (by first | (simp; done) | (simp; omega) | exact of_decide_eq_true (by kernel_rfl)) rfl (by first | rfl | assumption) (by kernel_rfl) ?_) | (refine st_cstore hS 3 rfl _ _ _ rfl _ _ _ rfl rfl rfl (by first | (simp; done) | (simp; omega) | exact of_decide_eq_true (by kernel_rfl)) rfl (by first | rfl | assumption) (by kernel_rfl) ?_)); clear hS; intro w_ hS; (try simp only [Act.put, Act.eval, List.set_cons_zero, List.set_cons_succ, List.setIfInBounds_toArray, Array.getD_eq_getD_getElem?, List.getElem?_toArray, List.getElem?_cons_succ, List.getElem?_cons_zero, Option.getD_some, Value.cells] at hS)))
                refine wp_region_typed (fun i__ v w => match i__ with
                  | 0 => v = .agg #[.int .i64 R, .pointer (some ⟨q, 0, none⟩), .slice Cs ns cs, .slice Ar rl.length cr, .slice An nl.length cn, .slice Ag gl.length cg]
                  | 1 => v = .agg #[.slice Ay my cy, .slice Am mn cm]
                  | 2 => IsSet w (fun _ => True) v (depC L z)
                  | 3 => v = .agg #[.slice A6 n6 c6]
                  | 4 => v = .bool b1
                  | _ => True) (by kernel_rfl) (by kernel_rfl) ?mono ⟨?r0, ?r1, ?r2, ?r3, ?r4, trivial⟩ ?post
                case mono =>
                  intro i v w w' h hb
                  match i, h with
                  | 0, h => exact h
                  | 1, h => exact h
                  | 2, h => exact h.ext hb
                  | 3, h => exact h
                  | 4, h => exact h
                  | _ + 5, h => trivial
                case r0 =>
                  refine trule fun b__ w hW hold hpre => ⟨fun hwant K hK => ?_, fun hwant => ?_⟩
                  · clear hwant
                    have e1 : b__.eval (.tmp 1) = .pointer (some ⟨g1, 0, none⟩) := (hold 1 (by kernel_rfl)).trans rfl
                    exact opw_row rfl e1 ((hS.ext (undrew hW)).box 8 rfl) Tryd.underlying43 rfl (by kernel_rfl) (hK _ _ rfl (Below.refl _ _))
                  · rw [want_none rfl] at hwant; cases hwant
                case r1 =>
                  refine trule fun b__ w hW hold hpre => ⟨fun hwant K hK => ?_, fun hwant => ?_⟩
                  · clear hwant
                    have e13 : b__.eval (.tmp 13) = .pointer (some ⟨g13, 0, none⟩) := (hold 13 (by kernel_rfl)).trans rfl
                    exact opw_row rfl e13 ((hS.ext (undrew hW)).box 0 rfl) Tryd.underlying33 rfl (by kernel_rfl) (hK _ _ rfl (Below.refl _ _))
                  · rw [want_none rfl] at hwant; cases hwant
                case r2 =>
                  refine trule fun b__ w hW hold hpre => ⟨fun hwant K hK => ?_, fun hwant => ?_⟩
                  · clear hwant
                    have e65 : b__.eval (.tmp 65) = .agg #[.int .i64 R, .pointer (some ⟨q, 0, none⟩), .slice Cs ns cs, .slice Ar rl.length cr, .slice An nl.length cn, .slice Ag gl.length cg] := hpre ⟨0, _⟩ (Array.mem_of_getElem? (i := 0) rfl) rfl _ _ rfl rfl
                    have e66 : b__.eval (.tmp 66) = .agg #[.slice Ay my cy, .slice Am mn cm] := hpre ⟨1, _⟩ (Array.mem_of_getElem? (i := 1) rfl) rfl _ _ rfl rfl
                    refine opw_call rfl (by kernel_rfl) (by simp only [List.map_cons, List.map_nil, e65, e66]) (depends_any (kp _ _ (k0 _ _ (k62.out _ _ (hS.ext (undrew hW)).ro))) rfl HH.out (kt _ _ (k0 _ _ (k62.out _ _ (hS.ext (undrew hW)).ro))) (kc.out _ _ (hS.ext (undrew hW)).ro).2) fun v w' h hb => ?_
                    exact hK v w' (by rw [← HDZ.out]; exact h.imp fun _ _ _ => trivial) hb
                  · rw [want_none rfl] at hwant; cases hwant
                case r3 =>
                  refine trule fun b__ w hW hold hpre => ⟨fun hwant K hK => ?_, fun hwant => ?_⟩
                  · clear hwant
                    have e6 : b__.eval (.tmp 6) = .pointer (some ⟨g6, 0, none⟩) := (hold 6 (by kernel_rfl)).trans rfl
                    exact opw_row rfl e6 ((hS.ext (undrew hW)).box 6 rfl) Tryd.underlying31 rfl (by kernel_rfl) (hK _ _ rfl (Below.refl _ _))
                  · rw [want_none rfl] at hwant; cases hwant
                case r4 =>
                  refine trule fun b__ w hW hold hpre => ⟨fun hwant K hK => ?_, fun hwant => ?_⟩
                  · clear hwant
                    have e67 : (fun (v : Value) (w : World) => IsSet w (fun _ => True) v (depC L z)) (b__.eval (.tmp 67)) w := hpre ⟨2, _⟩ (Array.mem_of_getElem? (i := 0) rfl) rfl _ _ rfl rfl
                    have e68 : b__.eval (.tmp 68) = .agg #[.slice A6 n6 c6] := hpre ⟨3, _⟩ (Array.mem_of_getElem? (i := 1) rfl) rfl _ _ rfl rfl
                    exact opw_call rfl (by kernel_rfl) (by simp only [List.map_cons, List.map_nil, e68]) (meets_any _ _ (depC L z) SM _ _ _ e67 (k6 _ _ (k62.out _ _ (hS.ext (undrew hW)).ro))) fun v w' h hb => hK v w' (h.trans (by rw [HB1.out])) hb
                  · rw [want_none rfl] at hwant; cases hwant
                case post =>
                  intro b__ wz hW hdf hsz hold hT
                  have e65 : b__.eval (.tmp 65) = .agg #[.int .i64 R, .pointer (some ⟨q, 0, none⟩), .slice Cs ns cs, .slice Ar rl.length cr, .slice An nl.length cn, .slice Ag gl.length cg] := hT 0 _ 65 rfl rfl
                  have e66 : b__.eval (.tmp 66) = .agg #[.slice Ay my cy, .slice Am mn cm] := hT 1 _ 66 rfl rfl
                  have e67 : (fun (v : Value) (w : World) => IsSet w (fun _ => True) v (depC L z)) (b__.eval (.tmp 67)) wz := hT 2 _ 67 rfl rfl
                  have e68 : b__.eval (.tmp 68) = .agg #[.slice A6 n6 c6] := hT 3 _ 68 rfl rfl
                  have e69 : b__.eval (.tmp 69) = .bool b1 := hT 4 _ 69 rfl rfl
                  obtain ⟨vs, hvs, hb⟩ := frame_of hdf hsz hold
                  replace e65 : vs 65 = .agg #[.int .i64 R, .pointer (some ⟨q, 0, none⟩), .slice Cs ns cs, .slice Ar rl.length cr, .slice An nl.length cn, .slice Ag gl.length cg] := (hvs 65).symm.trans e65
                  replace e66 : vs 66 = .agg #[.slice Ay my cy, .slice Am mn cm] := (hvs 66).symm.trans e66
                  replace e67 := (hvs 67) ▸ e67
                  replace e68 : vs 68 = .agg #[.slice A6 n6 c6] := (hvs 68).symm.trans e68
                  replace e69 : vs 69 = .bool b1 := (hvs 69).symm.trans e69
                  subst hb
                  clear hvs hold hT hdf hsz
                  simp only [setAll, Act.put, List.setIfInBounds_toArray, List.set_cons_zero, List.set_cons_succ, List.getElem_toArray, List.getElem_cons_succ, List.getElem_cons_zero]
                  rw [e69]
                  replace hS := hS.ext hW
                  clear hW e65 e66 e67 e68 e69
                  cases b1
                  · have HT1 : Hid (keepC L SM (nl.take (j + 1)) = KCL) := Lib.hid (HTC.out.trans (if_neg (by rw [← hb1]; exact Bool.false_ne_true)))
                    clear hb1 hKC HTC
                    go_wp2_with fail
                    refine ⟨⟨j + 1, nv, ys, by go_num, hlj, ?_⟩, by simp [intOf]; omega⟩
                    rw [HT1.out]
                    exact (hS.sub (List.sublist_cons_self _ _)).mono (KSB.out.and stable_cc) fun D w h => (kc.out _ _ h).1
                  · have HT1 : Hid (keepC L SM (nl.take (j + 1)) = KCL ++ [z]) := Lib.hid (HTC.out.trans (if_pos hb1.symm))
                    clear hb1 hKC HTC
                    have hcl := HLC.out
                    obtain ⟨Anv, cnv, rfl, _, _⟩ := own_shp (hS.own 1 rfl)
                    go_wp2_with (first
                      | ((with_reducible show wpList _ _ _ (⟨some 71, _, _, _, _, _⟩ :: _) _ _); refine st_cell hS 4 rfl _ _ rfl g8 4 rfl _ _ rfl (by decide +kernel) _ rfl ?_)
                      | ((with_reducible show wpList _ _ _ (⟨_, .load _ _, _, _, _, _⟩ :: _) _ _); first | refine st_load hS 0 rfl _ _ rfl _ rfl _ _ rfl _ Tryd.underlying33 rfl (by kernel_rfl) ?_ | refine st_load hS 1 rfl _ _ rfl _ rfl _ _ rfl _ Tryd.underlying33 rfl (by kernel_rfl) ?_ | refine st_load hS 2 rfl _ _ rfl _ rfl _ _ rfl _ Tryd.underlying33 rfl (by kernel_rfl) ?_ | refine st_load hS 3 rfl _ _ rfl _ rfl _ _ rfl _ Tryd.underlying33 rfl (by kernel_rfl) ?_)
                      | ((with_reducible show wpList _ _ _ (⟨some 73, _, _, _, _, _⟩ :: _) _ _); refine st_push hS 1 rfl rfl _ _ _ _ rfl rfl ty_cubes (.slice Anv KCL.length cnv) KCL.length ys (.agg #[.slice Ay my cy, .slice Am mn cm]) #[.slice Ay my cy, .slice Am mn cm] rfl (by kernel_rfl) rfl rfl rfl rfl (by intro u hu; simp at hu; rcases hu with rfl | rfl <;> rfl) (by omega) (by omega) ?_; clear hS; intro z_ v' w_ hS; (try simp only [Act.put, Act.eval, List.set_cons_zero, List.set_cons_succ, List.setIfInBounds_toArray, Array.getD_eq_getD_getElem?, List.getElem?_toArray, List.getElem?_cons_succ, List.getElem?_cons_zero, Option.getD_some, Value.cells] at hS); obtain ⟨Anv2, cnv2, rfl, _, _⟩ := own_shp (hS.own 1 rfl))
                      | ((with_reducible show wpList _ _ _ (⟨none, .store 41 _ _, _, _, _, _⟩ :: _) _ _); refine st_cstore hS 4 rfl _ _ _ rfl _ _ _ rfl rfl rfl (by first | (simp; done) | (simp; omega) | exact of_decide_eq_true (by kernel_rfl)) rfl (by first | rfl | assumption) (by kernel_rfl) ?_; clear hS; intro w_ hS; (try simp only [Act.put, Act.eval, List.set_cons_zero, List.set_cons_succ, List.setIfInBounds_toArray, Array.getD_eq_getD_getElem?, List.getElem?_toArray, List.getElem?_cons_succ, List.getElem?_cons_zero, Option.getD_some, Value.cells] at hS)))
                    have hxl := (hS.own 1 rfl).1
                    refine ⟨⟨j + 1, .slice Anv2 (KCL.length + 1) cnv2, ys ++ [.slice Ay my cy, .slice Am mn cm], by go_num, hlj, ?_⟩, by simp [intOf]; omega⟩
                    rw [HT1.out, show (KCL ++ [z]).length = KCL.length + 1 by simp]
                    exact (hS.sub (List.sublist_cons_self _ _)).mono (KSB.out.and stable_cc) fun D w h => ⟨(kc.out _ _ h).1.1, by obtain ⟨_, _, he, hy, hn⟩ := (kc.out _ _ h).2; injection he with he; injection he with he; injection he with e1 he; injection he with e2 he; subst e1 e2; exact (kc.out _ _ h).1.2.push (by simp at hxl; omega) hy hn⟩
              · obtain rfl : nl.length = j := by omega
                rw [List.take_length] at hS
                obtain ⟨Anv, cnv, rfl, _, _⟩ := own_shp (hS.own 0 rfl)
                go_wp2_with (first
                  | ((with_reducible show wpList _ _ _ (⟨_, .binOp _ _ _ _ _, _, _, _, _⟩ :: _) _ _); (first | (refine st_lss rfl _ _ _ _ rfl _ _ _ rfl rfl (fun h_ => ?_) (fun h_ => ?_)) | (refine st_leq rfl _ _ _ _ rfl _ _ _ rfl rfl (fun h_ => ?_) (fun h_ => ?_)) | (refine st_gtr rfl _ _ _ _ rfl _ _ _ rfl rfl (fun h_ => ?_) (fun h_ => ?_)) | (refine st_geq rfl _ _ _ _ rfl _ _ _ rfl rfl (fun h_ => ?_) (fun h_ => ?_)) | (refine st_eql rfl _ _ _ _ rfl _ _ _ rfl rfl (fun h_ => ?_) (fun h_ => ?_)) | (refine st_neq rfl _ _ _ _ rfl _ _ _ rfl rfl (fun h_ => ?_) (fun h_ => ?_))) <;> go_prune)
                  | ((with_reducible show wpList _ _ _ (⟨some 77, _, _, _, _, _⟩ :: _) _ _); refine BigFrame.wpList_want rfl fun _ hK => opw_row rfl rfl (hS.box 3 rfl) Tryd.underlying43 rfl (by kernel_rfl) (hK _ _ ?_))
                  | ((with_reducible show wpList _ _ _ (⟨none, .store 43 _ _, _, _, _, _⟩ :: _) _ _); refine st_store hS 6 rfl _ _ _ rfl _ _ rfl rfl _ _ rfl (by kernel_rfl) (by kernel_rfl) (by kernel_rfl) ?_; clear hS; intro w_ hS; (try simp only [Act.put, Act.eval, List.set_cons_zero, List.set_cons_succ, List.setIfInBounds_toArray, Array.getD_eq_getD_getElem?, List.getElem?_toArray, List.getElem?_cons_succ, List.getElem?_cons_zero, Option.getD_some, Value.cells] at hS)))
                have hS1 := ((hS.freeze 0 (by decide) rfl).freeze 0 (by decide) rfl).freeze 0 (by decide) rfl
                refine ret3_cell Tryd.results11 rfl (hS.box 6 rfl) Tryd.underlying43 rfl (by kernel_rfl) rfl rfl rfl ?_
                refine ⟨_, _, rfl, (hS1.sub (F' := F) (((((List.sublist_cons_self _ _).trans (List.sublist_cons_self _ _)).trans (List.sublist_cons_self _ _)).trans (List.sublist_cons_self _ _)).trans (List.sublist_cons_self _ _))).mono ((KS.out.and stable_prob).and (stable_sl (by decide))) fun D w h => ?_⟩
                obtain ⟨⟨⟨⟨hB, hC⟩, hN⟩, hI⟩, hRl⟩ := h
                obtain ⟨hA, hRC⟩ := kb.out _ _ hB
                obtain ⟨h7, hSt⟩ := ka.out _ _ hA
                obtain ⟨p1, -, -, -, p5⟩ := (kq _ _ h7).parts
                rw [HOF.out, HON.out, ← HKN.out]
                refine ⟨⟨k0 _ _ h7, _, _, _, _, _, rfl, p1, hSt, ?_, ?_, p5⟩, hI⟩
                · rw [← HKR.out]; exact ⟨xs, hRl, hRC⟩
                · exact ⟨ys, hN, hC⟩
  · have HOF : Hid (ofP ⟨R, lk, st, rl, nl, gl⟩ = zeroP) := Lib.hid (by unfold ofP; rw [if_neg (fun h => h0 (HE.out.trans h))])
    have HON : Hid (ofKept ⟨R, lk, st, rl, nl, gl⟩ = []) := Lib.hid (by unfold ofKept; rw [if_neg (fun h => h0 (HE.out.trans h))])
    go_enter Tryd.func11, Tryd.ntmps11
    go_wp2_with (first
      | ((with_reducible show wpList _ _ _ (⟨some 1, _, _, _, _, _⟩ :: _) _ _); refine st_box hS rfl _ _ rfl (.agg #[.int .i64 R, lp, .slice Cs ns cs, .slice Ar rl.length cr, .slice An nl.length cn, .slice Ag gl.length cg]) _ rfl rfl ?_; clear hS; intro g1 w_ hS; (try simp only [Act.put, Act.eval, List.set_cons_zero, List.set_cons_succ, List.setIfInBounds_toArray, Array.getD_eq_getD_getElem?, List.getElem?_toArray, List.getElem?_cons_succ, List.getElem?_cons_zero, Option.getD_some, Value.cells] at hS))
      | ((with_reducible show wpList _ _ _ (⟨some 2, _, _, _, _, _⟩ :: _) _ _); refine st_allocz hS rfl _ rfl (by kernel_rfl) #[.int .i64 0, .pointer none, .slice none 0 0, .slice none 0 0, .slice none 0 0, .slice none 0 0] (by kernel_rfl) ?_; clear hS; intro g2 w_ hS; (try simp only [Act.put, Act.eval, List.set_cons_zero, List.set_cons_succ, List.setIfInBounds_toArray, Array.getD_eq_getD_getElem?, List.getElem?_toArray, List.getElem?_cons_succ, List.getElem?_cons_zero, Option.getD_some, Value.cells] at hS))
      | ((with_reducible show wpList _ _ _ (⟨_, .binOp _ _ _ _ _, _, _, _, _⟩ :: _) _ _); (first | (refine st_lss rfl _ _ _ _ rfl _ _ _ rfl rfl (fun h_ => ?_) (fun h_ => ?_)) | (refine st_leq rfl _ _ _ _ rfl _ _ _ rfl rfl (fun h_ => ?_) (fun h_ => ?_)) | (refine st_gtr rfl _ _ _ _ rfl _ _ _ rfl rfl (fun h_ => ?_) (fun h_ => ?_)) | (refine st_geq rfl _ _ _ _ rfl _ _ _ rfl rfl (fun h_ => ?_) (fun h_ => ?_)) | (refine st_eql rfl _ _ _ _ rfl _ _ _ rfl rfl (fun h_ => ?_) (fun h_ => ?_)) | (refine st_neq rfl _ _ _ _ rfl _ _ _ rfl rfl (fun h_ => ?_) (fun h_ => ?_))) <;> go_prune)
      | ((with_reducible show wpList _ _ _ (⟨_, .load _ _, _, _, _, _⟩ :: _) _ _); first | refine st_load hS 0 rfl _ _ rfl _ rfl _ _ rfl _ Tryd.underlying43 rfl (by kernel_rfl) ?_ | refine st_load hS 1 rfl _ _ rfl _ rfl _ _ rfl _ Tryd.underlying43 rfl (by kernel_rfl) ?_ | refine st_load hS 2 rfl _ _ rfl _ rfl _ _ rfl _ Tryd.underlying43 rfl (by kernel_rfl) ?_ | refine st_load hS 3 rfl _ _ rfl _ rfl _ _ rfl _ Tryd.underlying43 rfl (by kernel_rfl) ?_)
      | ((with_reducible show wpList _ _ _ (⟨_, .build _ _, _, _, _, _⟩ :: _) _ _); refine wpList_build_of rfl _ _ rfl #[.int .i64 0, .pointer none, .slice none 0 0, .slice none 0 0, .slice none 0 0, .slice none 0 0] (by kernel_rfl) ?_)
      | ((with_reducible show wpList _ _ _ (⟨_, .store _ _ _, _, _, _, _⟩ :: _) _ _); (first | (refine st_store hS 0 rfl _ _ _ rfl _ _ rfl rfl _ _ rfl (by kernel_rfl) (by kernel_rfl) (by kernel_rfl) ?_) | (refine st_store hS 1 rfl _ _ _ rfl _ _ rfl rfl _ _ rfl (by kernel_rfl) (by kernel_rfl) (by kernel_rfl) ?_) | (refine st_store hS 2 rfl _ _ _ rfl _ _ rfl rfl _ _ rfl (by kernel_rfl) (by kernel_rfl) (by kernel_rfl) ?_) | (refine st_store hS 3 rfl _ _ _ rfl _ _ rfl rfl _ _ rfl (by kernel_rfl) (by kernel_rfl) (by kernel_rfl) ?_) | (refine st_cstore hS 0 rfl _ _ _ rfl _ _ _ rfl rfl rfl (by first | (simp; done) | (simp; omega) | exact of_decide_eq_true (by kernel_rfl)) rfl (by first | rfl | assumption) (by kernel_rfl) ?_) | (refine st_cstore hS 1 rfl _ _ _ rfl _ _ _ rfl rfl rfl (by first | (simp; done) | (simp; omega) | exact of_decide_eq_true (by kernel_rfl)) rfl (by first | rfl | assumption) (by kernel_rfl) ?_) | (refine st_cstore hS 2 rfl _ _ _ rfl _ _ _ rfl rfl rfl (by first | (simp; done) | (simp; omega) | exact of_decide_eq_true (by kernel_rfl)) rfl (by first | rfl | assumption) (by kernel_rfl) ?_) | (refine st_cstore hS 3 rfl _ _ _ rfl _ _ _ rfl rfl rfl (by first | (simp; done) | (simp; omega) | exact of_decide_eq_true (by kernel_rfl)) rfl (by first | rfl | assumption) (by kernel_rfl) ?_)); clear hS; intro w_ hS; (try simp only [Act.put, Act.eval, List.set_cons_zero, List.set_cons_succ, List.setIfInBounds_toArray, Array.getD_eq_getD_getElem?, List.getElem?_toArray, List.getElem?_cons_succ, List.getElem?_cons_zero, Option.getD_some, Value.cells] at hS))
      | (go_at_call 17; refine (schk_any (kp _ _ hS.ro) HP.out (kt _ _ hS.ro)).mono ?_; rw [← HE.out]; rintro r_ w_ ⟨_, rfl, rfl, hb_⟩; replace hS := hS.ext hb_; clear hb_))
    refine ret3_cell Tryd.results11 rfl (hS.box 0 rfl) Tryd.underlying43 rfl (by kernel_rfl) rfl rfl rfl ?_
    refine ⟨_, _, rfl, (hS.sub (F' := F) ((List.sublist_cons_self _ _).trans (List.sublist_cons_self _ _))).mono ((KS.out.and stable_prob).and (stable_sl (by decide))) fun D w h => ?_⟩
    rw [HOF.out, HON.out]
    exact ⟨⟨h, _, _, _, _, _, rfl, rfl, IsSet.empty, ⟨[], Sl.none_, fun i z hi => by simp [zeroP] at hi⟩, ⟨[], Sl.none_, fun i y n hi => by simp [zeroP] at hi⟩, [], Sl.none_, fun i y n hi => by simp [zeroP] at hi⟩, Sl.none_⟩
end Go.Proofs.YtihpgmbinhmmlaaDoor
namespace Go.Proofs.YtihpgmbinhmmlaaDoor
open Go.RowKit
attribute [local go_sem ↓] Go.wp_at_zero Go.wp_at_succ
set_option maxRecDepth 20000
set_option exponentiation.threshold 5000

theorem rolesN_lt (r : Nat) : rolesN r < 2 ^ (r + 1) := by
  have h1 : 2 ^ (r + 1) - 1 < 2 ^ (r + 1) := by have := Nat.two_pow_pos (r + 1); omega
  unfold rolesN del
  split
  · exact Nat.xor_lt_two_pow h1 (Nat.pow_lt_pow_right (by decide) (by simp))
  · exact h1
theorem has_roles {r : Nat} {i : Int} (h : hasB (rolesN r) i = true) : ∃ t : Nat, i = (t : Int) ∧ t ≤ r := by
  unfold hasB at h
  simp only [Bool.and_eq_true, decide_eq_true_eq] at h
  refine ⟨i.toNat, by omega, ?_⟩
  rcases Nat.lt_or_ge i.toNat (r + 1) with h1 | h1
  · omega
  · have := Nat.testBit_lt_two_pow (Nat.lt_of_lt_of_le (rolesN_lt r) (Nat.pow_le_pow_right (by decide) h1))
    rw [this] at h; cases h.2
theorem checkE_known {p : ProbD} {L : List (Nat × Nat)} (h : checkE p = 0) (hl : p.links = some L) : (1 ≤ p.roles ∧ p.roles ≤ 63) ∧ knownB p L (rolesN p.roles.toNat) = true := by
  unfold checkE at h
  rw [hl] at h
  dsimp only at h
  split at h
  · cases h
  · rename_i h1
    split at h
    · cases h
    · split at h
      · cases h
      · rename_i h2
        exact ⟨by omega, by simpa using h2⟩
theorem target_nat {p : ProbD} {L : List (Nat × Nat)} (h : checkE p = 0) (hl : p.links = some L) {r : RuleD} (hr : r ∈ p.rules) : ∃ t : Nat, r.target = (t : Int) ∧ t < 64 := by
  obtain ⟨h1, h2⟩ := checkE_known h hl
  unfold knownB at h2
  simp only [Bool.and_eq_true] at h2
  obtain ⟨t, e, ht⟩ := has_roles (List.all_eq_true.1 h2.2.2.1 r hr)
  exact ⟨t, e, by omega⟩
theorem cnt_lt {α : Type} {p q : α → Bool} (h : ∀ x, q x = true → p x = true) {r : α} (hp : p r = true) (hq : q r = false) : ∀ {l : List α}, r ∈ l → (l.filter q).length < (l.filter p).length
  | x :: l, hr => by
    have hle : ∀ l : List α, (l.filter q).length ≤ (l.filter p).length := fun l => by
      induction l with
      | nil => simp
      | cons y l ih =>
        rw [List.filter_cons, List.filter_cons]
        by_cases hy : q y = true
        · rw [if_pos hy, if_pos (h y hy)]; simpa using ih
        · rw [if_neg hy]; split
          · simp; omega
          · exact ih
    rcases List.mem_cons.1 hr with rfl | hr
    · rw [List.filter_cons, List.filter_cons, if_neg (by rw [hq]; decide), if_pos hp]
      have := hle l
      simp; omega
    · have ih := cnt_lt h hp hq hr
      rw [List.filter_cons, List.filter_cons]
      by_cases hy : q x = true
      · rw [if_pos hy, if_pos (h x hy)]; simpa using ih
      · rw [if_neg hy]; split
        · simp; omega
        · exact ih
theorem tb_closM {L : List (Nat × Nat)} {s i : Nat} : (closM L s).testBit i = true ↔ ∃ r, r < 64 ∧ 1 ≤ r ∧ s.testBit r = true ∧ (junM L r).testBit i = true := by
  unfold closM; exact tb_closTo
theorem Sub.clos {L : List (Nat × Nat)} {a b : Nat} (h : Sub a b) : Sub (closM L a) (closM L b) := fun i hi => by
  obtain ⟨r, h1, h2, h3, h4⟩ := tb_closM.1 hi
  exact tb_closM.2 ⟨r, h1, h2, h r h3, h4⟩
theorem within_iff {a b : Nat} : (a &&& b == a) = true ↔ Sub a b := by
  rw [beq_iff_eq]
  constructor
  · intro h i hi
    rw [← h, Nat.testBit_and, Bool.and_eq_true] at hi
    exact hi.2
  · intro h
    refine mask_ext fun i => ?_
    rw [Nat.testBit_and, Bool.and_eq_true]
    exact ⟨fun h => h.1, fun hi => ⟨hi, h i hi⟩⟩
structure UCl (L : List (Nat × Nat)) (p : ProbD) (T : Nat) : Prop where
  start : Sub p.start T
  rules : ∀ r ∈ p.rules, r.revoke = false → (r.yes &&& closM L T == r.yes) = true → hasB T r.target = true
def ULow (L : List (Nat × Nat)) (p : ProbD) (N : Nat) : Prop := Sub p.start N ∧ ∀ T, UCl L p T → Sub N T
def ULeast (L : List (Nat × Nat)) (p : ProbD) (N : Nat) : Prop := UCl L p N ∧ ∀ T, UCl L p T → Sub N T
open Classical in
noncomputable def uppM (L : List (Nat × Nat)) (p : ProbD) : Nat := if h : ∃ N, ULeast L p N then Classical.choose h else 0
theorem ULeast.eq {L : List (Nat × Nat)} {p : ProbD} {N : Nat} (h : ULeast L p N) : N = uppM L p := by
  have hx : ∃ N, ULeast L p N := ⟨N, h⟩
  have k : ULeast L p (uppM L p) := by unfold uppM; rw [dif_pos hx]; exact Classical.choose_spec hx
  exact (h.2 _ k.1).anti (k.2 _ h.1)
theorem ULow.add {L : List (Nat × Nat)} {p : ProbD} {N t : Nat} (h : ULow L p N) {r : RuleD} (hr : r ∈ p.rules) (h1 : r.revoke = false) (h2 : (r.yes &&& closM L N == r.yes) = true) (ht : r.target = (t : Int)) : ULow L p (N ||| 2 ^ t) :=
  ⟨h.1.trans (Sub.left _ _), fun T hT => (h.2 T hT).or fun i hi => by
    have e : i = t := tb_pow.1 hi
    subst e
    have := hT.rules r hr h1 (within_iff.2 ((within_iff.1 h2).trans (h.2 T hT).clos))
    rw [ht] at this
    unfold hasB at this
    simp only [Bool.and_eq_true] at this
    simpa using this.2⟩
def lacks (N : Nat) (l : List RuleD) : Nat := (l.filter fun r => !hasB N r.target).length
theorem lacks_lt {N t : Nat} {l : List RuleD} {r : RuleD} (hr : r ∈ l) (ht : r.target = (t : Int)) (hn : hasB N r.target = false) : lacks (N ||| 2 ^ t) l < lacks N l := by
  refine cnt_lt (r := r) (fun x hx => ?_) (by rw [hn]; rfl) ?_ hr
  · cases hb : hasB N x.target with
    | false => rfl
    | true => rw [(Sub.left N (2 ^ t)).has hb] at hx; cases hx
  · rw [ht]; simp [hasB]
noncomputable def uslN (C : Nat) (l : List RuleD) (j : Nat) : List Int := ((List.range j).filter fun k : Nat => !(l.getD k dfltR).revoke && !((l.getD k dfltR).yes &&& C == (l.getD k dfltR).yes)).map fun k : Nat => (k : Int)
theorem uslN_step {C : Nat} {l : List RuleD} {j : Nat} {r : RuleD} (h : l[j]? = some r) : uslN C l (j + 1) = if (!r.revoke && !(r.yes &&& C == r.yes)) = true then uslN C l j ++ [(j : Int)] else uslN C l j := by
  unfold uslN
  have e : l.getD j dfltR = r := by rw [List.getD_eq_getElem?_getD, h]; rfl
  rw [List.range_succ, List.filter_append, List.map_append]
  by_cases e2 : (!r.revoke && !(r.yes &&& C == r.yes)) = true
  · rw [if_pos e2, List.filter_cons, e, if_pos e2]; rfl
  · rw [if_neg e2, List.filter_cons, e, if_neg e2]; simp
noncomputable def useN (p : ProbD) : List Int := if checkE p = 0 then (match p.links with
  | none => []
  | some L => uslN (closM L (uppM L p)) p.rules p.rules.length) else []
structure URnd (L : List (Nat × Nat)) (p : ProbD) (B N : Nat) (b : Bool) (j : Nat) : Prop where
  low : ULow L p N
  yes : b = true → lacks N p.rules < lacks B p.rules
  no : b = false → N = B ∧ ∀ r ∈ p.rules.take j, r.revoke = false → (r.yes &&& closM L N == r.yes) = true → hasB N r.target = true
theorem URnd.skip {L : List (Nat × Nat)} {p : ProbD} {B N : Nat} {b : Bool} {j : Nat} (h : URnd L p B N b j) {r : RuleD} (hj : p.rules[j]? = some r) (h1 : r.revoke = true ∨ hasB N r.target = true ∨ (r.yes &&& closM L N == r.yes) = false) : URnd L p B N b (j + 1) :=
  ⟨h.low, h.yes, fun e => ⟨(h.no e).1, fun x hx a c => (take_mem hj hx).elim (fun hx => (h.no e).2 x hx a c) fun e2 => by
    subst e2
    rcases h1 with h1 | h1 | h1
    · rw [h1] at a; cases a
    · exact h1
    · rw [h1] at c; cases c⟩⟩
theorem URnd.add {L : List (Nat × Nat)} {p : ProbD} {B N t : Nat} {b : Bool} {j : Nat} (h : URnd L p B N b j) {r : RuleD} (hj : p.rules[j]? = some r) (h1 : r.revoke = false) (h2 : hasB N r.target = false) (h3 : (r.yes &&& closM L N == r.yes) = true) (ht : r.target = (t : Int)) : URnd L p B (N ||| 2 ^ t) true (j + 1) :=
  ⟨h.low.add (List.mem_of_getElem? hj) h1 h3 ht, fun _ => by
    have h4 := lacks_lt (List.mem_of_getElem? hj) ht h2
    cases b with
    | true => exact Nat.lt_trans h4 (h.yes rfl)
    | false => rw [← (h.no rfl).1]; exact h4, fun e => by cases e⟩
end Go.Proofs.YtihpgmbinhmmlaaDoor
